/- The contract of edges.Ends, walked by hand. -/
import Derived.Test.YtbkogefcjcokhaaMs
set_option linter.unusedVariables false
set_option linter.unusedSimpArgs false
namespace Go.Proofs.Ytbkogefcjcokhaa.Ed
open Go.RowKit Go.Proofs.Ytbkogefcjcokhaa.PAll Go.Proofs.Ytbkogefcjcokhaa.Nm Go.Proofs.YtbkogefcjcokhaaW.PrintWords

def Rg (l : List S33) : Prop := ∀ e ∈ l, (-9223372036854775808 ≤ e.f0 ∧ e.f0 ≤ 9223372036854775807) ∧ (-9223372036854775808 ≤ e.f1 ∧ e.f1 ≤ 9223372036854775807)
theorem step_mapUpdate_runI {P : Program} {ops : Array Oper} {o : Oper} {a : Act} {w : World} {K : Act → World → Prop} {Q : Exit → Act → World → Prop} {E : Prop}
    (hg : o.guard = none) (m x v : Operand) (t : TypeId) (hop : o.op = Op.mapUpdate t m x v)
    (vm vx vv : Value) (hm : a.eval m = vm) (hx : a.eval x = vx) (hv : a.eval v = vv) {w' : World} (hr : (Instr.mapUpdate t vm vx vv).run P w = .ok () w') (hK : K (a.put o.dst undef) w') :
    if Region.wanted o (yielded ops a.tmps) = true then Oper.wp P o a w K Q else E := by
  have hw : Region.wanted o (yielded ops a.tmps) = true := by simp [Region.wanted, hg]
  rw [if_pos hw]
  unfold Oper.wp
  simp [execOp, hop, hm, hx, hv, hr, Result.andThen]
  exact hK

theorem grown_trans {w W wa wb : World} {B b : Nat} (h : Below B w W) (h1 : W.grownBy wa (some b)) (h2 : wa.grownBy wb (some b)) (hb : B ≤ b) (hB : B ≤ W.heap.size) : Below B w wb :=
  (h.grown h1 hB (fun k e => by injection e with e; omega)).grown h2 (Nat.le_trans hB h1.size) (fun k e => by injection e with e; omega)
theorem wpList_delete_runI {P : Program} (w : World) {ops : Array Oper} {rest : List Oper} {o : Oper} {a : Act} {Q : Exit → Act → World → Prop} (hgd : o.guard = none) (d x : Operand) (t k : TypeId)
    (ho : o.op = .call { callee := .builtin .delete, args := #[d, x], argTypes := #[t, k] }) (v u : Value) (hd : a.eval d = v) (hx : a.eval x = u) {v' : Value} {w' : World}
    (hr : (Builtin.delete_ #[t, k] o.type #[v, u]).run P w = .ok v' w') (h : wpList P ops Q rest (a.put o.dst v') w') : wpList P ops Q (o :: rest) a w :=
  wpList_plain hgd fun K hK => by
    unfold Oper.wp execOp
    simp only [ho, resolve, invoke, builtin, Sem.run_bind, Sem.run_pure, Result.andThen_ok, List.map_toArray, List.map_cons, List.map_nil, hd, hx, hr]
    exact hK _ _ h
set_option maxHeartbeats 2000000 in
set_option maxRecDepth 100000 in
theorem ends_ok (A : Option Addr) (c : Nat) (l : List S33) (w : World) (hl : l.length ≤ 1000) (hr : Kd.C k33 w A l.length l) (hc : l.length ≤ c) (hok : Ok l) (hrg : Rg l) :
    Calls Try.prog 19 #[.slice A l.length c] w fun e w' => e = .returned (.tuple #[.int .i64 (endsN l), .int .i64 0]) ∧ Below w.heap.size w w' := by
  have hchk := check_any A c l w hl hr hc
  rw [if_pos hok] at hchk
  have HCH := Aside0.mk hchk
  have HR := Aside0.mk hr
  have HOK := Lib.hid hok
  have HRG := Lib.hid hrg
  have hu33 := Try.underlying33
  have mixed : Try.prog.follows .mixedOrders = true := by kernel_rfl
  clear hr hchk hok hrg
  go_enter Try.func19, Try.ntmps19
  go_wp2_with fail
  refine HCH.out.mono ?_
  rintro e w1 ⟨rfl, hb⟩
  have HB := Lib.hid hb
  clear hb
  have hmk := run_makeMap (P := Try.prog) 58 w1
  go_wp2_with (simp only [hmk])
  go_loopw [16] (fun vi wr => ∃ i : Nat, vi = .int .i64 i ∧ i ≤ l.length ∧ Hid (Below w.heap.size w wr) ∧ Hid (MapS wr w1.heap.size (2 * i) (metA [] (l.take i)))) (fun vi _ => l.length - (intOf vi).toNat)
  case atStart => exact ⟨0, rfl, by omega, HB.out.alloc HB.out.size _, MapS.made w1⟩
  case round =>
    obtain ⟨i, rfl, hil, hbl, hms⟩ := hrel
    by_cases hi : i < l.length
    · obtain ⟨ad, rfl, h0, h1, h2⟩ := at_T33 (Kd.C_below HR.out hbl.out) (i : Int) (by omega) (by omega)
      rw [Int.toNat_natCast, rd_nat l i hi] at h0 h1 h2
      have hri := HRG.out _ (List.getElem_mem hi)
      have hst : metA [] (l.take (i + 1)) = addS (addS (metA [] (l.take i)) l[i].f0) l[i].f1 := by
        rw [List.take_add_one, List.getElem?_eq_getElem hi, metA_append]; rfl
      obtain ⟨e, he⟩ : ∃ e, e = l[i] := ⟨_, rfl⟩
      rw [← he] at h0 h1 h2 hri hst
      obtain ⟨W, hW⟩ : ∃ W, W = (wr.alloc (.cells #[.int .i64 e.f0, .int .i64 e.f1, .int .i64 e.f2] 33)).drew := ⟨_, rfl⟩
      have hsW : MapS W w1.heap.size (2 * i) (metA [] (l.take i)) := by rw [hW]; exact (hms.out.alloc _).drew
      have hblW : Below w.heap.size w W := by rw [hW]; exact (hbl.out.alloc hbl.out.size _).trans ⟨rfl, rfl, rfl, Nat.le_refl _, fun _ _ => rfl⟩
      have c0 : W.cell? ⟨wr.heap.size, 0, none⟩ = some (.int .i64 e.f0) := by rw [hW]; exact (cell_of_row (wr.alloc (.cells #[.int .i64 e.f0, .int .i64 e.f1, .int .i64 e.f2] 33)) _ 0 _ 33 (0, 0) (heap_alloc_new wr _)).trans rfl
      have c1 : W.cell? ⟨wr.heap.size, 1, none⟩ = some (.int .i64 e.f1) := by rw [hW]; exact (cell_of_row (wr.alloc (.cells #[.int .i64 e.f0, .int .i64 e.f1, .int .i64 e.f2] 33)) _ 1 _ 33 (0, 0) (heap_alloc_new wr _)).trans rfl
      obtain ⟨wa, hrun1, hs1, hg1⟩ := hsW.put (by omega) hri.1.1 hri.1.2
      obtain ⟨wb, hrun2, hs2, hg2⟩ := hs1.put (by omega) hri.2.1 hri.2.2
      rw [← hst] at hs2
      have hne : wr.heap.size ≠ w1.heap.size := by
        obtain ⟨D, ho, _⟩ := hms.out
        have := ho.lt
        omega
      have d1 := hg1.cell c1 (by simp; exact hne)
      have hb1 : w.heap.size ≤ w1.heap.size := HB.out.size
      have HBL := Lib.hid (grown_trans hblW hg1 hg2 hb1 hblW.size)
      have HS2 := Lib.hid hs2
      have HIL := Lib.hid hi
      rw [hW] at hrun1 c0 c1
      clear hs1 hs2 hsW hblW hg1 hg2 hst hri hms hbl
      rw [he] at h0 h1 h2 hrun1 c0 c1 hrun2 d1
      go_upto_region 8 with (fail)
      go_region_law_o (first | refine step_mapUpdate_runI rfl _ _ _ 58 rfl _ _ _ (by simp [Act.eval, Act.put]) (by simp [Act.eval, Act.put]) (by simp [Act.eval, Act.put]) hrun1 ?_ | refine step_mapUpdate_runI rfl _ _ _ 58 rfl _ _ _ (by simp [Act.eval, Act.put]) (by simp [Act.eval, Act.put]) (by simp [Act.eval, Act.put]) hrun2 ?_)
      all_goals
        go_wp2_with fail
        go_roundw
        case rel => exact ⟨i + 1, by go_num, by omega, HBL, HS2⟩
        case measure => simp [intOf]; omega
    · obtain rfl : i = l.length := by omega
      have hms' := hms.out
      rw [List.take_length] at hms'
      obtain ⟨wd, hdel, hgd, hlen⟩ := hms'.del 0
      have hlen3 := hlen 3
      have hmet : (noRoot (metA [] l)).length = endsN l := by
        rw [met_eq (fun e he => by have := HOK.out.1 e he; unfold okE at this; omega)]
        rfl
      rw [hmet] at hlen3
      have HBD := Lib.hid (hbl.out.grown hgd hbl.out.size (fun k e => by injection e with e; have := HB.out.size; omega))
      clear hms hms' hgd hlen hmet
      go_wp2_with (first | (at_builtin; refine wpList_delete_runI _ rfl _ _ 58 3 rfl _ _ rfl rfl hdel ?_) | simp only [hlen3])
      go_ret2
      exact ⟨rfl, HBD.out⟩
theorem ends_bad (A : Option Addr) (c : Nat) (l : List S33) (w : World) (hl : l.length ≤ 1000) (hr : Kd.C k33 w A l.length l) (hc : l.length ≤ c) (hok : ¬ Ok l) :
    Calls Try.prog 19 #[.slice A l.length c] w fun e w' => e = .returned (.tuple #[.int .i64 0, .int .i64 1]) ∧ Below w.heap.size w w' := by
  have hchk := check_any A c l w hl hr hc
  rw [if_neg hok] at hchk
  have HCH := Aside0.mk hchk
  clear hr hchk hok
  go_enter Try.func19, Try.ntmps19
  go_wp2_with fail
  refine HCH.out.mono ?_
  rintro e w1 ⟨rfl, hb⟩
  have HB := Lib.hid hb
  clear hb
  go_wp2_with fail
  go_ret2
  exact ⟨rfl, HB.out⟩
def endsE (l : List S33) : Int := if Ok l then 0 else 1
def endsO (l : List S33) : Int := if Ok l then (endsN l : Nat) else 0
theorem ends_rd {v : Value} {l : List S33} {w : World} (h : Rd w v l) (hl : l.length ≤ 1000) (hrg : Rg l) : Calls Try.prog 19 #[v] w fun e w' => e = .returned (.tuple #[.int .i64 (endsO l), .int .i64 (endsE l)]) ∧ Below w.heap.size w w' := by
  obtain ⟨A, c, rfl, hc, hA, hr⟩ := h
  unfold endsO endsE
  by_cases hok : Ok l
  · rw [if_pos hok, if_pos hok]
    exact ends_ok A c l w hl hr hc hok hrg
  · rw [if_neg hok, if_neg hok]
    exact ends_bad A c l w hl hr hc hok
end Go.Proofs.Ytbkogefcjcokhaa.Ed
