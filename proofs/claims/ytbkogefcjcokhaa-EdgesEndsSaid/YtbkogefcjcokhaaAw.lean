/- The contracts of awake and Few. -/
import Derived.Test.YtbkogefcjcokhaaNe
set_option linter.unusedVariables false
set_option linter.unusedSimpArgs false
namespace Go.Proofs.Ytbkogefcjcokhaa.Ed
open Go.RowKit Go.Proofs.Ytbkogefcjcokhaa.PAll Go.Proofs.Ytbkogefcjcokhaa.Nm Go.Proofs.YtbkogefcjcokhaaW.PrintWords

/-- A slice of edges that a call may be handed. -/
def Rd (w : World) (v : Value) (l : List S33) : Prop := ∃ A c, v = .slice A l.length c ∧ l.length ≤ c ∧ (A = none → c = 0) ∧ Kd.C k33 w A l.length l
theorem Own.rd {w : World} {B : Nat} {v : Value} {l : List S33} (h : Own w B v l) : Rd w v l := by
  obtain ⟨A, c, rfl, hc, hr⟩ := h.reads
  refine ⟨A, c, rfl, hc, fun hA => ?_, hr⟩
  rcases h.2 with ⟨he, _⟩ | ⟨g, cap, cur, he, _⟩
  · injection he
  · rw [hA] at he
    injection he with h1
    cases h1
theorem Rd.below {w w1 : World} {v : Value} {l : List S33} (h : Rd w v l) (hb : Below w.heap.size w w1) : Rd w1 v l := by
  obtain ⟨A, c, e, hc, hA, hr⟩ := h
  exact ⟨A, c, e, hc, hA, Kd.C_below hr hb⟩
theorem Rd.nil (w : World) : Rd w (.slice none 0 0) [] := (Own.nil w 0).rd
theorem add_rd {v : Value} {l : List S33} {w : World} (h : Rd w v l) (hl : l.length ≤ 1000) (f t : Int) : Calls Try.prog 10 #[v, .int .i64 f, .int .i64 t] w (AddPost l f t w) := by
  obtain ⟨A, c, rfl, hc, hA, hr⟩ := h
  exact add_any A c l f t w hl hr hc hA
theorem drop_rd {v : Value} {l : List S33} {w : World} (h : Rd w v l) (hl : l.length ≤ 1000) (f t : Int) : Calls Try.prog 11 #[v, .int .i64 f, .int .i64 t] w (DropPost l f t w) := by
  obtain ⟨A, c, rfl, hc, hA, hr⟩ := h
  exact drop_any A c l f t w hl hr hc hA
theorem many_rd {v : Value} {l : List S33} {w : World} (h : Rd w v l) (hl : l.length ≤ 1000) (f t : Int) : Calls Try.prog 18 #[v, .int .i64 f, .int .i64 t] w fun e w' => e = .returned (.tuple #[.int .i64 (manyO l f t), .int .i64 (manyE l f t)]) ∧ Below w.heap.size w w' := by
  obtain ⟨A, c, rfl, hc, hA, hr⟩ := h
  exact many_any A c l f t w hl hr hc hA
theorem next_rd {v : Value} {l : List S33} {w : World} (h : Rd w v l) (hl : l.length ≤ 1000) (f : Int) : Calls Try.prog 20 #[v, .int .i64 f] w (nextPost l f w) := by
  obtain ⟨A, c, rfl, hc, hA, hr⟩ := h
  exact next_any A c l f w hl hr hc
theorem back_rd {v : Value} {l : List S33} {w : World} (h : Rd w v l) (hl : l.length ≤ 1000) (f : Int) : Calls Try.prog 21 #[v, .int .i64 f] w (backPost l f w) := by
  obtain ⟨A, c, rfl, hc, hA, hr⟩ := h
  exact back_any A c l f w hl hr hc
theorem check_rd {v : Value} {l : List S33} {w : World} (h : Rd w v l) (hl : l.length ≤ 1000) : Calls Try.prog 17 #[v] w fun e w' => e = .returned (.int .i64 (if Ok l then 0 else 1)) ∧ Below w.heap.size w w' := by
  obtain ⟨A, c, rfl, hc, hA, hr⟩ := h
  exact check_any A c l w hl hr hc
theorem ownI_one {w : World} {B : Nat} {v : Value} {x : Int} (h : OwnI w B v [x]) : ∃ g c, v = .slice (some ⟨g, 0, none⟩) 1 c ∧ w.cell? ⟨g, 0, none⟩ = some (.int .i64 x) := by
  rcases h.2 with ⟨_, h0⟩ | ⟨g, cap, cur, rfl, hg, hh, hn, hm, hs, ht⟩
  · simp at h0
  · refine ⟨g, cap, rfl, ?_⟩
    have := World.ownsRow.cells h rfl 0 (.int .i64 x) rfl
    simpa [Addr.add] using this

theorem aw1 : addE [] (-1) 3 = 0 ∧ addO [] (-1) 3 = [⟨-1, 3, 1⟩] := by
  have h : addE [] (-1) 3 = 0 := by decide
  exact ⟨h, by rw [addO_ok h]; rfl⟩
theorem aw2 : addE [⟨-1, 3, 1⟩] (-1) 3 = 0 ∧ addO [⟨-1, 3, 1⟩] (-1) 3 = [⟨-1, 3, 2⟩] := by
  have h : addE [⟨-1, 3, 1⟩] (-1) 3 = 0 := by decide
  exact ⟨h, by rw [addO_ok h]; rfl⟩
theorem aw3 : dropE [⟨-1, 3, 2⟩] (-1) 3 = 0 ∧ dropO [⟨-1, 3, 2⟩] (-1) 3 = [⟨-1, 3, 1⟩] := by
  have h : dropE [⟨-1, 3, 2⟩] (-1) 3 = 0 := by decide
  exact ⟨h, by rw [dropO_ok h]; rfl⟩
theorem aw4 : nextE [⟨-1, 3, 1⟩] (-1) = 0 ∧ nextO [⟨-1, 3, 1⟩] (-1) = [3] := by
  have h : Ok [⟨-1, 3, 1⟩] ∧ (-1) ≤ (-1 : Int) := by decide
  exact ⟨(next_good h).1, by rw [(next_good h).2]; rfl⟩
theorem aw5 : dropE [⟨-1, 3, 1⟩] 0 3 = 2 := by decide

set_option maxHeartbeats 4000000 in
set_option maxRecDepth 100000 in
theorem awake_any (w : World) : Calls Try.prog 13 #[] w fun e w' => e = .returned (.bool true) ∧ Below w.heap.size w w' := by
  go_enter Try.func13, Try.ntmps13
  go_wp2_with fail
  refine (add_rd (Rd.nil w) (by simp) (-1) 3).mono ?_
  rintro e w1 ⟨v1, rfl, ho1, hb1⟩
  rw [aw1.1]
  rw [aw1.2] at ho1
  have HR1 := Lib.hid ho1.rd
  have HB1 := Lib.hid hb1
  clear ho1 hb1
  go_wp2_with fail
  refine (add_rd HR1.out (by simp) (-1) 3).mono ?_
  rintro e w2 ⟨v2, rfl, ho1, hb1⟩
  rw [aw2.1]
  rw [aw2.2] at ho1
  have HR2 := Lib.hid ho1.rd
  have HB2 := Lib.hid (below_step HB1.out hb1)
  clear ho1 hb1
  go_wp2_with fail
  refine (drop_rd HR2.out (by simp) (-1) 3).mono ?_
  rintro e w3 ⟨v3, rfl, ho1, hb1⟩
  rw [aw3.1]
  rw [aw3.2] at ho1
  have HR3 := Lib.hid ho1.rd
  have HB3 := Lib.hid (below_step HB2.out hb1)
  clear ho1 hb1
  go_wp2_with fail
  refine (next_rd HR3.out (by simp) (-1)).mono ?_
  rintro e w4 ⟨v4, rfl, ho1, hb1⟩
  rw [aw4.1]
  rw [aw4.2] at ho1
  have HO4 := Lib.hid ho1
  have HR4 := Lib.hid (HR3.out.below hb1)
  have HB4 := Lib.hid (below_step HB3.out hb1)
  clear ho1 hb1
  go_wp2_with fail
  refine (drop_rd HR4.out (by simp) 0 3).mono ?_
  rintro e w5 ⟨v5, rfl, ho1, hb1⟩
  rw [aw5]
  have HO5 := Lib.hid (HO4.out.below hb1)
  have HB5 := Lib.hid (below_step HB4.out hb1)
  clear ho1 hb1
  obtain ⟨g, c, rfl, hcell⟩ := ownI_one HO5.out
  obtain ⟨A, c3, rfl, _⟩ := HR3.out
  go_wp2_with fail
  go_ret
  exact ⟨rfl, HB5.out⟩
end Go.Proofs.Ytbkogefcjcokhaa.Ed
