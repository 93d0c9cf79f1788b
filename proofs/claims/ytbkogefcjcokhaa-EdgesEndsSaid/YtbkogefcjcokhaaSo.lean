/- The contracts of edges.some (with each of its closures), edges.Next and edges.Back. PRINTED by gen_so.py of this work. -/
import Derived.Test.YtbkogefcjcokhaaDp
import Derived.Lib.SliceRun
set_option linter.unusedVariables false
set_option linter.unusedSimpArgs false
namespace Go.Proofs.Ytbkogefcjcokhaa.Ed
open Go.RowKit Go.Proofs.Ytbkogefcjcokhaa.PAll Go.Proofs.Ytbkogefcjcokhaa.Nm Go.Proofs.YtbkogefcjcokhaaW.PrintWords

def OwnI (w : World) (B : Nat) (v : Value) (xs : List Int) : Prop := w.ownsRow B 3 1 v xs.length (xs.map (Value.int .i64))
theorem OwnI.nil (w : World) (B : Nat) : OwnI w B (.slice none 0 0) [] := World.ownsRow_nil w B 3 1
theorem OwnI.below {w w1 : World} {B : Nat} {v : Value} {l : List Int} (h : OwnI w B v l) (hb : Below w.heap.size w w1) : OwnI w1 B v l := own_move h (fun k hk => hb.block k (own_lt h k hk))
theorem OwnI.lower {w : World} {B B' : Nat} {v : Value} {l : List Int} (h : OwnI w B v l) (hb : B' ≤ B) : OwnI w B' v l := own_weaken h hb
theorem size3 : (Try.prog.info? 3).map (·.size) = some 1 := by kernel_rfl
theorem under45 : Try.prog.underlying 45 = some (.slice 3) := by kernel_rfl
theorem appendI_own {w : World} {B : Nat} {v : Value} {l : List Int} (h : OwnI w B v l) (hB : B ≤ w.heap.size) (a : Addr) (c : Nat) (x : Int) (ty : TypeId) (hr : w.cell? a = some (.int .i64 x)) (hl : l.length ≤ 100000) :
    ∃ v' w', (Builtin.append_ #[45, 45] ty #[v, .slice (some a) 1 c]).run Try.prog w = .ok v' w' ∧ OwnI w' B v' (l ++ [x]) ∧ w.grownBy w' v.ownBlock := by
  cases hq : Try.prog.info? 3 with
  | none => have := size3; simp [hq] at this
  | some i =>
    have h3 := info3
    simp [hq] at h3
    obtain ⟨hz, hs, hb⟩ := h3
    obtain ⟨v', w', h1, h2, h3, _⟩ := run_append_own (P := Try.prog) w B 45 ty 3 i _ 1 8 under45 hq hz hs hb (by kernel_rfl) (by omega) v l.length (l.map (Value.int .i64)) h a 1 c [.int .i64 x] rfl
      (fun j u hj => by
        match j, hj with
        | 0, hj =>
          obtain rfl : Value.int .i64 x = u := by simpa using hj
          show w.cell? (a.add 0) = _
          cases a
          simpa [Addr.add] using hr) (fun u hu => by rw [List.mem_singleton.1 hu]; rfl) (by unfold maxLen; omega) (by omega) hB
    refine ⟨v', w', h1, ?_, h3⟩
    unfold OwnI
    rw [List.map_append, List.length_append]
    exact h2
def someL (sel : S33 → Int × Bool) (l : List S33) : List Int := (l.filter fun e => (sel e).2).map fun e => (sel e).1
def sel33 (fr : Int) (e : S33) : Int × Bool := (e.f1, e.f0 == fr)
def sel34 (fr : Int) (e : S33) : Int × Bool := (e.f0, e.f1 == fr)
theorem cell_lt {w : World} {a : Addr} {v : Value} (h : w.cell? a = some v) : a.block < w.heap.size := by
  rcases Nat.lt_or_ge a.block w.heap.size with h' | h'
  · exact h'
  · simp [World.cell?, Array.getElem?_eq_none h'] at h
theorem someL_succ (sel : S33 → Int × Bool) (l : List S33) (k : Nat) (hk : k < l.length) : someL sel (l.take (k + 1)) = someL sel (l.take k) ++ (if (sel l[k]).2 then [(sel l[k]).1] else []) := by
  rw [List.take_add_one, List.getElem?_eq_getElem hk]
  unfold someL
  rw [List.filter_append, List.map_append]
  congr 1
  by_cases h : (sel l[k]).2 = true
  · simp [h]
  · simp [h]
theorem someL_length (sel : S33 → Int × Bool) (l : List S33) : (someL sel l).length ≤ l.length := by
  unfold someL
  rw [List.length_map]
  exact List.length_filter_le _ _

set_option maxRecDepth 100000 in
theorem clo33 (e : S33) (p : Nat) (fr : Int) (w : World) (hc : w.cell? ⟨p, 0, none⟩ = some (.int .i64 fr)) :
    Calls Try.prog 33 #[.agg #[.int .i64 e.f0, .int .i64 e.f1, .int .i64 e.f2], .pointer (some ⟨p, 0, none⟩)] w fun en w' => en = .returned (.tuple #[.int .i64 (sel33 fr e).1, .bool (sel33 fr e).2]) ∧ Below w.heap.size w w' := by
  have hlt := cell_lt hc
  have hc2 : (w.alloc (.cells #[.int .i64 e.f0, .int .i64 e.f1, .int .i64 e.f2] 33)).cell? ⟨p, 0, none⟩ = some (.int .i64 fr) := Lib.cell?_alloc_some _ hc
  have hu33 := Try.underlying33
  have b0 := (cell_of_row (w.alloc (.cells #[.int .i64 e.f0, .int .i64 e.f1, .int .i64 e.f2] 33)) _ 0 _ 33 (0, 0) (heap_alloc_new w _)).trans rfl
  have b1 := (cell_of_row (w.alloc (.cells #[.int .i64 e.f0, .int .i64 e.f1, .int .i64 e.f2] 33)) _ 1 _ 33 (0, 0) (heap_alloc_new w _)).trans rfl
  go_enter Try.func33, Try.ntmps33
  go_wp2_with fail
  go_quiet (fail)
  go_wp2
  go_ret2
  exact ⟨rfl, pw_below_drewN ((Below.refl _ w).alloc (Nat.le_refl _) _) _⟩

set_option maxRecDepth 100000 in
theorem clo34 (e : S33) (p : Nat) (fr : Int) (w : World) (hc : w.cell? ⟨p, 0, none⟩ = some (.int .i64 fr)) :
    Calls Try.prog 34 #[.agg #[.int .i64 e.f0, .int .i64 e.f1, .int .i64 e.f2], .pointer (some ⟨p, 0, none⟩)] w fun en w' => en = .returned (.tuple #[.int .i64 (sel34 fr e).1, .bool (sel34 fr e).2]) ∧ Below w.heap.size w w' := by
  have hlt := cell_lt hc
  have hc2 : (w.alloc (.cells #[.int .i64 e.f0, .int .i64 e.f1, .int .i64 e.f2] 33)).cell? ⟨p, 0, none⟩ = some (.int .i64 fr) := Lib.cell?_alloc_some _ hc
  have hu33 := Try.underlying33
  have b0 := (cell_of_row (w.alloc (.cells #[.int .i64 e.f0, .int .i64 e.f1, .int .i64 e.f2] 33)) _ 0 _ 33 (0, 0) (heap_alloc_new w _)).trans rfl
  have b1 := (cell_of_row (w.alloc (.cells #[.int .i64 e.f0, .int .i64 e.f1, .int .i64 e.f2] 33)) _ 1 _ 33 (0, 0) (heap_alloc_new w _)).trans rfl
  go_enter Try.func34, Try.ntmps34
  go_wp2_with fail
  go_quiet (fail)
  go_wp2
  go_ret2
  exact ⟨rfl, pw_below_drewN ((Below.refl _ w).alloc (Nat.le_refl _) _) _⟩

set_option maxHeartbeats 2000000 in
set_option maxRecDepth 100000 in
theorem some33 (A : Option Addr) (c : Nat) (l : List S33) (p : Nat) (fr : Int) (w : World) (hl : l.length ≤ 1000) (hr : Kd.C k33 w A l.length l) (hc : l.length ≤ c) (hp : w.cell? ⟨p, 0, none⟩ = some (.int .i64 fr)) :
    Calls Try.prog 32 #[.slice A l.length c, .func (.func 33) #[] #[.pointer (some ⟨p, 0, none⟩)]] w fun e w' => ∃ v, e = .returned v ∧ OwnI w' w.heap.size v (someL (sel33 fr) l) ∧ Below w.heap.size w w' := by
  have HR := Aside0.mk hr
  have HP := Lib.hid hp
  have hu33 := Try.underlying33
  clear hr hp
  go_enter Try.func32, Try.ntmps32
  go_wp2
  go_loopw [5, 12] (fun v vi wr => ∃ k : Nat, vi = .int .i64 k ∧ k ≤ l.length ∧ Hid (OwnI wr w.heap.size v (someL (sel33 fr) (l.take k))) ∧ Hid (Below w.heap.size w wr)) (fun _ vi _ => l.length - (intOf vi).toNat)
  case atStart => exact ⟨0, rfl, by omega, OwnI.nil _ _, Below.refl _ _⟩
  case round =>
    obtain ⟨k, rfl, hk, hown, hbl⟩ := hrel
    by_cases hlt : k < l.length
    · obtain ⟨ad, rfl, h0, h1, h2⟩ := at_T33 (Kd.C_below HR.out hbl.out) (k : Int) (by omega) (by omega)
      rw [Int.toNat_natCast, rd_nat l k hlt] at h0 h1 h2
      go_wp2_with fail
      refine (clo33 l[k] p fr _ (Lib.cell?_alloc_some _ (pw_cell_below hbl.out HP.out))).mono ?_
      rintro e w2 ⟨rfl, hb2⟩
      have hbw : Below w.heap.size w w2 := hbl.out.trans (((Below.refl _ wr).alloc hbl.out.size _).trans ⟨hb2.os, hb2.tape, hb2.output, hb2.size, fun i hi => hb2.block i (by have := hbl.out.size; simp; omega)⟩)
      have ho2 : OwnI w2 w.heap.size u5 (someL (sel33 fr) (l.take k)) := (hown.out.below ((Below.refl _ wr).alloc (Nat.le_refl _) _)).below hb2
      have hsu := someL_succ (sel33 fr) l k hlt
      have hB := Lib.hid hbw
      by_cases hs : (sel33 fr l[k]).2 = true
      · rw [hs] at hsu ⊢
        rw [if_pos rfl] at hsu
        obtain ⟨x, hx⟩ : ∃ x, x = (sel33 fr l[k]).1 := ⟨_, rfl⟩
        rw [← hx] at hsu ⊢
        have hlen : (someL (sel33 fr) (l.take k)).length ≤ 100000 := by
          have := someL_length (sel33 fr) (l.take k)
          rw [List.length_take] at this
          omega
        obtain ⟨v', w3, hrun, ho3, hg3⟩ := appendI_own (w := w2.alloc (.cells #[.int .i64 x] 3)) (ho2.below ((Below.refl _ w2).alloc (Nat.le_refl _) _)) (Nat.le_trans hbw.size (by simp)) ⟨w2.heap.size, 0, none⟩ 1 x 45 ((cell_of_row _ _ 0 _ 3 (0, 0) (heap_alloc_new w2 _)).trans rfl) hlen
        have hb3 : Below w.heap.size w w3 := (hbw.alloc hbw.size _).grown hg3 (Nat.le_trans hbw.size (by simp)) (fun q hq => own_base ho2 q hq)
        rw [← hsu] at ho3
        have HO3 := Lib.hid ho3
        have HB3 := Lib.hid hb3
        clear hb2 h0 h1 h2 hbw ho2 hsu hs hx hlen ho3 hb3 hg3 hown hbl
        go_wp2_with (at_builtin; refine Lib.wpList_append_run _ rfl _ _ _ _ rfl _ _ rfl rfl _ _ hrun ?_)
        go_roundw
        case rel => exact ⟨k + 1, by go_num, by omega, HO3, HB3⟩
        case measure => simp [intOf]; omega
      · rw [if_neg hs, List.append_nil] at hsu
        have hs' : (sel33 fr l[k]).2 = false := by simpa using hs
        rw [hs']
        rw [← hsu] at ho2
        have HO2 := Lib.hid ho2
        clear hb2 h0 h1 h2 hbw ho2 hsu hs hs' hown hbl
        go_wp2_with fail
        go_roundw
        case rel => exact ⟨k + 1, by go_num, by omega, HO2, hB⟩
        case measure => simp [intOf]; omega
    · obtain rfl : k = l.length := by omega
      have ho := hown.out
      rw [List.take_length] at ho
      have HO := Lib.hid ho
      clear ho hown
      go_wp2_with fail
      go_ret
      exact ⟨u5, rfl, HO.out, hbl.out⟩

set_option maxHeartbeats 2000000 in
set_option maxRecDepth 100000 in
theorem some34 (A : Option Addr) (c : Nat) (l : List S33) (p : Nat) (fr : Int) (w : World) (hl : l.length ≤ 1000) (hr : Kd.C k33 w A l.length l) (hc : l.length ≤ c) (hp : w.cell? ⟨p, 0, none⟩ = some (.int .i64 fr)) :
    Calls Try.prog 32 #[.slice A l.length c, .func (.func 34) #[] #[.pointer (some ⟨p, 0, none⟩)]] w fun e w' => ∃ v, e = .returned v ∧ OwnI w' w.heap.size v (someL (sel34 fr) l) ∧ Below w.heap.size w w' := by
  have HR := Aside0.mk hr
  have HP := Lib.hid hp
  have hu33 := Try.underlying33
  clear hr hp
  go_enter Try.func32, Try.ntmps32
  go_wp2
  go_loopw [5, 12] (fun v vi wr => ∃ k : Nat, vi = .int .i64 k ∧ k ≤ l.length ∧ Hid (OwnI wr w.heap.size v (someL (sel34 fr) (l.take k))) ∧ Hid (Below w.heap.size w wr)) (fun _ vi _ => l.length - (intOf vi).toNat)
  case atStart => exact ⟨0, rfl, by omega, OwnI.nil _ _, Below.refl _ _⟩
  case round =>
    obtain ⟨k, rfl, hk, hown, hbl⟩ := hrel
    by_cases hlt : k < l.length
    · obtain ⟨ad, rfl, h0, h1, h2⟩ := at_T33 (Kd.C_below HR.out hbl.out) (k : Int) (by omega) (by omega)
      rw [Int.toNat_natCast, rd_nat l k hlt] at h0 h1 h2
      go_wp2_with fail
      refine (clo34 l[k] p fr _ (Lib.cell?_alloc_some _ (pw_cell_below hbl.out HP.out))).mono ?_
      rintro e w2 ⟨rfl, hb2⟩
      have hbw : Below w.heap.size w w2 := hbl.out.trans (((Below.refl _ wr).alloc hbl.out.size _).trans ⟨hb2.os, hb2.tape, hb2.output, hb2.size, fun i hi => hb2.block i (by have := hbl.out.size; simp; omega)⟩)
      have ho2 : OwnI w2 w.heap.size u5 (someL (sel34 fr) (l.take k)) := (hown.out.below ((Below.refl _ wr).alloc (Nat.le_refl _) _)).below hb2
      have hsu := someL_succ (sel34 fr) l k hlt
      have hB := Lib.hid hbw
      by_cases hs : (sel34 fr l[k]).2 = true
      · rw [hs] at hsu ⊢
        rw [if_pos rfl] at hsu
        obtain ⟨x, hx⟩ : ∃ x, x = (sel34 fr l[k]).1 := ⟨_, rfl⟩
        rw [← hx] at hsu ⊢
        have hlen : (someL (sel34 fr) (l.take k)).length ≤ 100000 := by
          have := someL_length (sel34 fr) (l.take k)
          rw [List.length_take] at this
          omega
        obtain ⟨v', w3, hrun, ho3, hg3⟩ := appendI_own (w := w2.alloc (.cells #[.int .i64 x] 3)) (ho2.below ((Below.refl _ w2).alloc (Nat.le_refl _) _)) (Nat.le_trans hbw.size (by simp)) ⟨w2.heap.size, 0, none⟩ 1 x 45 ((cell_of_row _ _ 0 _ 3 (0, 0) (heap_alloc_new w2 _)).trans rfl) hlen
        have hb3 : Below w.heap.size w w3 := (hbw.alloc hbw.size _).grown hg3 (Nat.le_trans hbw.size (by simp)) (fun q hq => own_base ho2 q hq)
        rw [← hsu] at ho3
        have HO3 := Lib.hid ho3
        have HB3 := Lib.hid hb3
        clear hb2 h0 h1 h2 hbw ho2 hsu hs hx hlen ho3 hb3 hg3 hown hbl
        go_wp2_with (at_builtin; refine Lib.wpList_append_run _ rfl _ _ _ _ rfl _ _ rfl rfl _ _ hrun ?_)
        go_roundw
        case rel => exact ⟨k + 1, by go_num, by omega, HO3, HB3⟩
        case measure => simp [intOf]; omega
      · rw [if_neg hs, List.append_nil] at hsu
        have hs' : (sel34 fr l[k]).2 = false := by simpa using hs
        rw [hs']
        rw [← hsu] at ho2
        have HO2 := Lib.hid ho2
        clear hb2 h0 h1 h2 hbw ho2 hsu hs hs' hown hbl
        go_wp2_with fail
        go_roundw
        case rel => exact ⟨k + 1, by go_num, by omega, HO2, hB⟩
        case measure => simp [intOf]; omega
    · obtain rfl : k = l.length := by omega
      have ho := hown.out
      rw [List.take_length] at ho
      have HO := Lib.hid ho
      clear ho hown
      go_wp2_with fail
      go_ret
      exact ⟨u5, rfl, HO.out, hbl.out⟩
end Go.Proofs.Ytbkogefcjcokhaa.Ed
