/- The contracts of edges.Next and edges.Back. PRINTED by gen_ne.py of this work. -/
import Derived.Test.YtbkogefcjcokhaaSo
set_option linter.unusedVariables false
set_option linter.unusedSimpArgs false
namespace Go.Proofs.Ytbkogefcjcokhaa.Ed
open Go.RowKit Go.Proofs.Ytbkogefcjcokhaa.PAll Go.Proofs.Ytbkogefcjcokhaa.Nm Go.Proofs.YtbkogefcjcokhaaW.PrintWords

def nextE (l : List S33) (f : Int) : Int := if Ok l ∧ (-1) ≤ f then 0 else 1
def nextO (l : List S33) (f : Int) : List Int := if Ok l ∧ (-1) ≤ f then someL (sel33 f) l else []
theorem next_good {l : List S33} {f : Int} (h : Ok l ∧ (-1) ≤ f) : nextE l f = 0 ∧ nextO l f = someL (sel33 f) l := by unfold nextE nextO; rw [if_pos h, if_pos h]; exact ⟨rfl, rfl⟩
theorem next_bad {l : List S33} {f : Int} (h : ¬ (Ok l ∧ (-1) ≤ f)) : nextE l f = 1 ∧ nextO l f = [] := by unfold nextE nextO; rw [if_neg h, if_neg h]; exact ⟨rfl, rfl⟩
def nextPost (l : List S33) (f : Int) (w : World) (e : Ending) (w' : World) : Prop := ∃ v, e = .returned (.tuple #[v, .int .i64 (nextE l f)]) ∧ OwnI w' w.heap.size v (nextO l f) ∧ Below w.heap.size w w'

set_option maxHeartbeats 2000000 in
set_option maxRecDepth 100000 in
theorem next_any (A : Option Addr) (c : Nat) (l : List S33) (f : Int) (w : World) (hl : l.length ≤ 1000) (hr : Kd.C k33 w A l.length l) (hc : l.length ≤ c) :
    Calls Try.prog 20 #[.slice A l.length c, .int .i64 f] w (nextPost l f w) := by
  obtain ⟨W, hW⟩ : ∃ W : World, W = w.alloc (.cells #[.int .i64 f] 3) := ⟨_, rfl⟩
  have hbW : Below w.heap.size w W := by rw [hW]; exact (Below.refl _ w).alloc (Nat.le_refl _) _
  have hrW : Kd.C k33 W A l.length l := Kd.C_below hr hbW
  have hcW : W.cell? ⟨w.heap.size, 0, none⟩ = some (.int .i64 f) := by rw [hW]; exact (cell_of_row _ _ 0 _ 3 (0, 0) (heap_alloc_new w _)).trans rfl
  have HCH := Aside0.mk (check_any A c l W hl hrW hc)
  rw [hW] at HCH
  have HCELL := Lib.hid hcW
  have HRW := Aside0.mk hrW
  have HBW := Lib.hid hbW
  have HW := Lib.hid hW
  clear hr hrW hcW hbW hW
  by_cases hg : Ok l ∧ (-1) ≤ f
  · have HG := Lib.hid (next_good hg)
    have hf2 : ¬ f < (-1) := by omega
    have hfd : decide (f < (-1)) = false := by simp; omega
    rw [if_pos hg.1] at HCH
    clear hg
    go_enter Try.func20, Try.ntmps20
    go_wp2_with fail
    refine HCH.out.mono ?_
    rintro e w1 ⟨rfl, hb⟩
    rw [← HW.out] at hb
    have HB := Lib.hid hb
    have hcell1 := Lib.hid (pw_cell_below hb HCELL.out)
    clear hb
    have hcell1' := hcell1.out
    go_wp2_with fail
    refine (some33 A c l w.heap.size f w1 hl (Kd.C_below HRW.out HB.out) hc hcell1.out).mono ?_
    rintro e w2 ⟨v, rfl, ho, hb⟩
    have hsz : w.heap.size ≤ w1.heap.size := Nat.le_trans HBW.out.size HB.out.size
    have HO := Lib.hid (ho.lower hsz)
    have HB2 := Lib.hid (below_then (below_then HBW.out HBW.out.size HB.out) hsz hb)
    clear ho hb hcell1'
    go_wp2_with fail
    go_ret2
    exact ⟨v, by rw [HG.out.1]; rfl, by rw [HG.out.2]; exact HO.out, HB2.out⟩
  · have HG := Lib.hid (next_bad hg)
    by_cases hok : Ok l
    · have hf : f < (-1) := by
        rcases Int.lt_or_le f ((-1)) with h | h
        · exact h
        · exact absurd ⟨hok, h⟩ hg
      rw [if_pos hok] at HCH
      clear hg hok
      go_enter Try.func20, Try.ntmps20
      go_wp2_with fail
      refine HCH.out.mono ?_
      rintro e w1 ⟨rfl, hb⟩
      rw [← HW.out] at hb
      have HB := Lib.hid hb
      have hcell1 := pw_cell_below hb HCELL.out
      clear hb
      go_wp2_with fail
      go_ret2
      exact ⟨_, by rw [HG.out.1]; rfl, by rw [HG.out.2]; exact OwnI.nil _ _, below_then HBW.out HBW.out.size HB.out⟩
    · rw [if_neg hok] at HCH
      clear hg hok
      go_enter Try.func20, Try.ntmps20
      go_wp2_with fail
      refine HCH.out.mono ?_
      rintro e w1 ⟨rfl, hb⟩
      rw [← HW.out] at hb
      have HB := Lib.hid hb
      clear hb
      go_wp2_with fail
      go_ret2
      exact ⟨_, by rw [HG.out.1]; rfl, by rw [HG.out.2]; exact OwnI.nil _ _, below_then HBW.out HBW.out.size HB.out⟩

def backE (l : List S33) (f : Int) : Int := if Ok l ∧ 0 ≤ f then 0 else 1
def backO (l : List S33) (f : Int) : List Int := if Ok l ∧ 0 ≤ f then someL (sel34 f) l else []
theorem back_good {l : List S33} {f : Int} (h : Ok l ∧ 0 ≤ f) : backE l f = 0 ∧ backO l f = someL (sel34 f) l := by unfold backE backO; rw [if_pos h, if_pos h]; exact ⟨rfl, rfl⟩
theorem back_bad {l : List S33} {f : Int} (h : ¬ (Ok l ∧ 0 ≤ f)) : backE l f = 1 ∧ backO l f = [] := by unfold backE backO; rw [if_neg h, if_neg h]; exact ⟨rfl, rfl⟩
def backPost (l : List S33) (f : Int) (w : World) (e : Ending) (w' : World) : Prop := ∃ v, e = .returned (.tuple #[v, .int .i64 (backE l f)]) ∧ OwnI w' w.heap.size v (backO l f) ∧ Below w.heap.size w w'

set_option maxHeartbeats 2000000 in
set_option maxRecDepth 100000 in
theorem back_any (A : Option Addr) (c : Nat) (l : List S33) (f : Int) (w : World) (hl : l.length ≤ 1000) (hr : Kd.C k33 w A l.length l) (hc : l.length ≤ c) :
    Calls Try.prog 21 #[.slice A l.length c, .int .i64 f] w (backPost l f w) := by
  obtain ⟨W, hW⟩ : ∃ W : World, W = w.alloc (.cells #[.int .i64 f] 3) := ⟨_, rfl⟩
  have hbW : Below w.heap.size w W := by rw [hW]; exact (Below.refl _ w).alloc (Nat.le_refl _) _
  have hrW : Kd.C k33 W A l.length l := Kd.C_below hr hbW
  have hcW : W.cell? ⟨w.heap.size, 0, none⟩ = some (.int .i64 f) := by rw [hW]; exact (cell_of_row _ _ 0 _ 3 (0, 0) (heap_alloc_new w _)).trans rfl
  have HCH := Aside0.mk (check_any A c l W hl hrW hc)
  rw [hW] at HCH
  have HCELL := Lib.hid hcW
  have HRW := Aside0.mk hrW
  have HBW := Lib.hid hbW
  have HW := Lib.hid hW
  clear hr hrW hcW hbW hW
  by_cases hg : Ok l ∧ 0 ≤ f
  · have HG := Lib.hid (back_good hg)
    have hf2 : ¬ f < 0 := by omega
    have hfd : decide (f < 0) = false := by simp; omega
    rw [if_pos hg.1] at HCH
    clear hg
    go_enter Try.func21, Try.ntmps21
    go_wp2_with fail
    refine HCH.out.mono ?_
    rintro e w1 ⟨rfl, hb⟩
    rw [← HW.out] at hb
    have HB := Lib.hid hb
    have hcell1 := Lib.hid (pw_cell_below hb HCELL.out)
    clear hb
    have hcell1' := hcell1.out
    go_wp2_with fail
    refine (some34 A c l w.heap.size f w1 hl (Kd.C_below HRW.out HB.out) hc hcell1.out).mono ?_
    rintro e w2 ⟨v, rfl, ho, hb⟩
    have hsz : w.heap.size ≤ w1.heap.size := Nat.le_trans HBW.out.size HB.out.size
    have HO := Lib.hid (ho.lower hsz)
    have HB2 := Lib.hid (below_then (below_then HBW.out HBW.out.size HB.out) hsz hb)
    clear ho hb hcell1'
    go_wp2_with fail
    go_ret2
    exact ⟨v, by rw [HG.out.1]; rfl, by rw [HG.out.2]; exact HO.out, HB2.out⟩
  · have HG := Lib.hid (back_bad hg)
    by_cases hok : Ok l
    · have hf : f < 0 := by
        rcases Int.lt_or_le f (0) with h | h
        · exact h
        · exact absurd ⟨hok, h⟩ hg
      rw [if_pos hok] at HCH
      clear hg hok
      go_enter Try.func21, Try.ntmps21
      go_wp2_with fail
      refine HCH.out.mono ?_
      rintro e w1 ⟨rfl, hb⟩
      rw [← HW.out] at hb
      have HB := Lib.hid hb
      have hcell1 := pw_cell_below hb HCELL.out
      clear hb
      go_wp2_with fail
      go_ret2
      exact ⟨_, by rw [HG.out.1]; rfl, by rw [HG.out.2]; exact OwnI.nil _ _, below_then HBW.out HBW.out.size HB.out⟩
    · rw [if_neg hok] at HCH
      clear hg hok
      go_enter Try.func21, Try.ntmps21
      go_wp2_with fail
      refine HCH.out.mono ?_
      rintro e w1 ⟨rfl, hb⟩
      rw [← HW.out] at hb
      have HB := Lib.hid hb
      clear hb
      go_wp2_with fail
      go_ret2
      exact ⟨_, by rw [HG.out.1]; rfl, by rw [HG.out.2]; exact OwnI.nil _ _, below_then HBW.out HBW.out.size HB.out⟩
end Go.Proofs.Ytbkogefcjcokhaa.Ed
