/- The contracts of octet.classes and octet.All, walked by hand. -/
import Derived.Test.YtgldbbgcdpgbcaaWWords
import Derived.Test.YtgldbbgcdpgbcaaWMore
import Derived.Test.YtgldbbgcdpgbcaaProg
import Derived.Deep.WholeRow
import Derived.LoopTactic
import Derived.Outline
import Derived.Lib.Hide
import Derived.WalkKit
set_option linter.unusedVariables false
set_option linter.unusedSimpArgs false
namespace Go.Proofs.Ytgldbbgcdpgbcaa.Oct
open Go.RowKit Go.Proofs.YtgldbbgcdpgbcaaW.PrintWords


def zeros (n : Nat) : Array Value := Array.replicate n (.int .i64 0)
theorem z54 : (Try.prog.info? 54).map (fun i => (i.zero, i.size)) = some (some (.agg (zeros 256)), 256) := by kernel_rfl

/-- The strings of the literal, row i. -/
def rows : List (List UInt8) := [[], [48, 49, 50, 51, 52, 53, 54, 55, 56, 57],
  [97, 98, 99, 100, 101, 102, 103, 104, 105, 106, 107, 108, 109, 110, 111, 112, 113, 114, 115, 116, 117, 118, 119, 120, 121, 122, 65, 66, 67, 68, 69, 70, 71, 72, 73, 74, 75, 76, 77, 78, 79, 80, 81, 82, 83, 84, 85, 86, 87, 88, 89, 90],
  [45, 46, 95, 126], [47], [32, 9], [10], [34], [40], [41]]
def row (i : Nat) : ByteArray := ⟨(rows.getD i []).toArray⟩
def tbl : Value := .agg #[Value.string ⟨#[]⟩, Value.string ⟨#[48, 49, 50, 51, 52, 53, 54, 55, 56, 57]⟩, Value.string ⟨#[97, 98, 99, 100, 101, 102, 103, 104, 105, 106, 107, 108, 109, 110, 111, 112, 113, 114, 115, 116, 117, 118, 119, 120, 121, 122, 65, 66, 67, 68, 69, 70, 71, 72, 73, 74, 75, 76, 77, 78, 79, 80, 81, 82, 83, 84, 85, 86, 87, 88, 89, 90]⟩, Value.string ⟨#[45, 46, 95, 126]⟩, Value.string ⟨#[47]⟩, Value.string ⟨#[32, 9]⟩, Value.string ⟨#[10]⟩, Value.string ⟨#[34]⟩, Value.string ⟨#[40]⟩, Value.string ⟨#[41]⟩]
theorem ix0 (w : World) : (Instr.index 58 tbl (.int .i64 ((0 : Nat) : Int))).run Try.prog w = .ok (.string (row 0)) w := by kernel_rfl
theorem ix1 (w : World) : (Instr.index 58 tbl (.int .i64 ((1 : Nat) : Int))).run Try.prog w = .ok (.string (row 1)) w := by kernel_rfl
theorem ix2 (w : World) : (Instr.index 58 tbl (.int .i64 ((2 : Nat) : Int))).run Try.prog w = .ok (.string (row 2)) w := by kernel_rfl
theorem ix3 (w : World) : (Instr.index 58 tbl (.int .i64 ((3 : Nat) : Int))).run Try.prog w = .ok (.string (row 3)) w := by kernel_rfl
theorem ix4 (w : World) : (Instr.index 58 tbl (.int .i64 ((4 : Nat) : Int))).run Try.prog w = .ok (.string (row 4)) w := by kernel_rfl
theorem ix5 (w : World) : (Instr.index 58 tbl (.int .i64 ((5 : Nat) : Int))).run Try.prog w = .ok (.string (row 5)) w := by kernel_rfl
theorem ix6 (w : World) : (Instr.index 58 tbl (.int .i64 ((6 : Nat) : Int))).run Try.prog w = .ok (.string (row 6)) w := by kernel_rfl
theorem ix7 (w : World) : (Instr.index 58 tbl (.int .i64 ((7 : Nat) : Int))).run Try.prog w = .ok (.string (row 7)) w := by kernel_rfl
theorem ix8 (w : World) : (Instr.index 58 tbl (.int .i64 ((8 : Nat) : Int))).run Try.prog w = .ok (.string (row 8)) w := by kernel_rfl
theorem ix9 (w : World) : (Instr.index 58 tbl (.int .i64 ((9 : Nat) : Int))).run Try.prog w = .ok (.string (row 9)) w := by kernel_rfl
theorem index_tbl : ∀ i : Nat, i < 10 → ∀ w : World, (Instr.index 58 tbl (.int .i64 i)).run Try.prog w = .ok (.string (row i)) w
  | 0, _ => ix0
  | 1, _ => ix1
  | 2, _ => ix2
  | 3, _ => ix3
  | 4, _ => ix4
  | 5, _ => ix5
  | 6, _ => ix6
  | 7, _ => ix7
  | 8, _ => ix8
  | 9, _ => ix9
  | n + 10, h => absurd h (by omega)
def put (t : Array Value) (i : Nat) (l : List UInt8) : Array Value := l.foldl (fun t c => t.setIfInBounds c.toNat (.int .i64 (i : Int))) t
def cs : Nat → Array Value
  | 0 => zeros 256
  | i + 1 => put (cs i) i (row i).data.toList
theorem put_size (t : Array Value) (i : Nat) (l : List UInt8) : (put t i l).size = t.size := by
  induction l generalizing t with
  | nil => rfl
  | cons c l ih => simp [put] at ih ⊢; simpa using ih (t.setIfInBounds c.toNat (.int .i64 (i : Int)))
theorem put_snoc (t : Array Value) (i : Nat) (l : List UInt8) (c : UInt8) : put t i (l ++ [c]) = (put t i l).setIfInBounds c.toNat (.int .i64 (i : Int)) := by
  simp [put]
theorem cs_size (i : Nat) : (cs i).size = 256 := by
  induction i with
  | zero => simp [cs, zeros]
  | succ i ih => rw [cs, put_size, ih]
theorem take_snoc (s : ByteArray) (k : Nat) (h : k < s.size) : s.data.toList.take (k + 1) = s.data.toList.take k ++ [s[k]] := by
  rw [List.take_succ_eq_append_getElem (by simpa using h)]; rfl
theorem cell_new (w : World) (c : Array Value) (j : Nat) : (w.alloc (.cells c 54)).cell? ⟨w.heap.size, j, none⟩ = c[j]? := cell_of_row _ _ j c 54 (0, 0) (heap_alloc_last w _)
theorem row_size (i : Nat) : (row i).size ≤ 52 := by
  by_cases h : i < 10
  · have h' : i = 0 ∨ i = 1 ∨ i = 2 ∨ i = 3 ∨ i = 4 ∨ i = 5 ∨ i = 6 ∨ i = 7 ∨ i = 8 ∨ i = 9 := by omega
    rcases h' with rfl | rfl | rfl | rfl | rfl | rfl | rfl | rfl | rfl | rfl <;> decide
  · have e : row i = ⟨#[]⟩ := by simp [row, List.getD_eq_getElem?_getD, List.getElem?_eq_none (show rows.length ≤ i by simp [rows]; omega)]
    rw [e]; decide

set_option maxHeartbeats 2000000 in
set_option maxRecDepth 100000 in
theorem classes_any (w : World) : Calls Try.prog 31 #[] w fun e w' => e = .returned (.agg (cs 10)) ∧ w' = w.alloc (.cells (cs 10) 54) := by
  have z := (zero_of_info z54).1
  go_enter Try.func31, Try.ntmps31
  go_wp2
  go_loopw [5] (fun i wr => ∃ n : Nat, n ≤ 10 ∧ i = .int .i64 n ∧ wr = w.alloc (.cells (cs n) 54)) (fun i _ => 10 - (intOf i).toNat)
  case atStart => exact ⟨0, by omega, rfl, rfl⟩
  case round =>
    obtain ⟨n, hn, rfl, rfl⟩ := hrel
    by_cases hlt : n < 10
    · have hidx := index_tbl n hlt
      unfold tbl at hidx
      have hrs := row_size n
      go_wp2
      go_loopw [11] (fun k wr => ∃ m : Nat, m ≤ (row n).size ∧ k = .int .i64 m ∧ wr = w.alloc (.cells (put (cs n) n ((row n).data.toList.take m)) 54)) (fun k _ => (row n).size - (intOf k).toNat)
      case atStart => exact ⟨0, by omega, rfl, by simp [put]⟩
      case round =>
        obtain ⟨m, hm, rfl, rfl⟩ := hrel
        by_cases hlt2 : m < (row n).size
        · have hts := Lib.hid (take_snoc (row n) m hlt2)
          have hlt3 : (row n)[m].toNat < (put (cs n) n (List.take m (row n).data.toList)).size := by rw [put_size, cs_size]; exact (row n)[m].toNat_lt
          obtain ⟨v, hc⟩ : ∃ v, (put (cs n) n (List.take m (row n).data.toList))[(row n)[m].toNat]? = some v := ⟨_, Array.getElem?_eq_getElem hlt3⟩
          clear hlt3 hidx
          have hb8 : (((row n)[m]).toNat : Int) < 256 := by have := (row n)[m].toNat_lt; omega
          go_wp2
          go_roundw
          case rel => exact ⟨m + 1, by omega, by go_num, by rw [hts.out, put_snoc]⟩
          case measure => simp [intOf]; omega
        · have hm' : (row n).size ≤ m := by omega
          clear hidx
          go_wp2
          go_roundw
          case rel => refine ⟨n + 1, by omega, by go_num, ?_⟩; rw [List.take_of_length_le (by simpa using hm')]; rfl
          case measure => simp [intOf]; omega
    · have hn10 : n = 10 := by omega
      subst hn10
      clear z
      have hone : (cs 10).all (·.oneCell') = true := by decide +kernel
      have hi : (Try.prog.info? 54).map (·.size) = some (cs 10).size := by rw [cs_size]; kernel_rfl
      have HI := Lib.hid hi
      have HO := Lib.hid hone
      clear hi hone
      go_wp2_with (first
        | refine wpList_load_row rfl 54 _ rfl w.heap.size rfl 54 (cs 10) (0, 0) _ (heap_alloc_last w _) Try.underlying54 rfl HI.out ?_
        | refine wpList_store_row rfl 54 _ _ rfl w.heap.size (cs 10) rfl rfl 54 (cs 10) (heap_alloc_last w _) HI.out rfl HO.out ?_)
      rw [World.setRow_alloc_new]
      refine bodyPost_ret (v := .agg (cs 10)) (results_cell_row rfl _ _ w.heap.size 54 (cs 10) (0, 0) _ rfl (heap_alloc_last w _) Try.underlying54 rfl HI.out) rfl ⟨rfl, rfl⟩

def falses (n : Nat) : Array Value := Array.replicate n (.bool false)
theorem z56 : (Try.prog.info? 56).map (fun i => (i.zero, i.size)) = some (some (.agg (falses 10)), 10) := by kernel_rfl

def clsL : List Int := [0, 0, 0, 0, 0, 0, 0, 0, 0, 5, 6, 0, 0, 0, 0, 0, 0, 0, 0, 0, 0, 0, 0, 0, 0, 0, 0, 0, 0, 0, 0, 0, 5, 0, 7, 0, 0, 0, 0, 0, 8, 9, 0, 0, 0, 3, 3, 4, 1, 1, 1, 1, 1, 1, 1, 1, 1, 1, 0, 0, 0, 0, 0, 0, 0, 2, 2, 2, 2, 2, 2, 2, 2, 2, 2, 2, 2, 2, 2, 2, 2, 2, 2, 2, 2, 2, 2, 2, 2, 2, 2, 0, 0, 0, 0, 3, 0, 2, 2, 2, 2, 2, 2, 2, 2, 2, 2, 2, 2, 2, 2, 2, 2, 2, 2, 2, 2, 2, 2, 2, 2, 2, 2, 0, 0, 0, 3, 0, 0, 0, 0, 0, 0, 0, 0, 0, 0, 0, 0, 0, 0, 0, 0, 0, 0, 0, 0, 0, 0, 0, 0, 0, 0, 0, 0, 0, 0, 0, 0, 0, 0, 0, 0, 0, 0, 0, 0, 0, 0, 0, 0, 0, 0, 0, 0, 0, 0, 0, 0, 0, 0, 0, 0, 0, 0, 0, 0, 0, 0, 0, 0, 0, 0, 0, 0, 0, 0, 0, 0, 0, 0, 0, 0, 0, 0, 0, 0, 0, 0, 0, 0, 0, 0, 0, 0, 0, 0, 0, 0, 0, 0, 0, 0, 0, 0, 0, 0, 0, 0, 0, 0, 0, 0, 0, 0, 0, 0, 0, 0, 0, 0, 0, 0, 0, 0, 0, 0, 0, 0, 0, 0, 0, 0, 0, 0, 0]
def cls (c : Nat) : Int := clsL.getD c 0
theorem cs_eq : cs 10 = (clsL.map fun n => Value.int .i64 n).toArray := by kernel_rfl
theorem clsL_length : clsL.length = 256 := by kernel_rfl
theorem cs_at (c : Nat) (h : c < 256) : (cs 10)[c]? = some (.int .i64 (cls c)) := by
  rw [cs_eq, List.getElem?_toArray, List.getElem?_map, List.getElem?_eq_getElem (show c < clsL.length by rw [clsL_length]; exact h)]
  simp only [Option.map_some, cls, List.getD_eq_getElem?_getD, List.getElem?_eq_getElem (show c < clsL.length by rw [clsL_length]; exact h), Option.getD_some]
theorem cls_all : clsL.all (fun n => decide (0 ≤ n ∧ n < 10)) = true := by decide +kernel
theorem cls_range (c : Nat) : 0 ≤ cls c ∧ cls c < 10 := by
  unfold cls
  rw [List.getD_eq_getElem?_getD]
  by_cases h : c < clsL.length
  · rw [List.getElem?_eq_getElem h]
    have := List.all_eq_true.1 cls_all _ (List.getElem_mem h)
    simpa using this
  · rw [List.getElem?_eq_none (by omega)]
    simp

def mb1 (t : Array Value) (x : Int) : Array Value := if 0 ≤ x ∧ x < 10 then t.setIfInBounds x.toNat (.bool true) else t
def mb (l : List Int) : Array Value := l.foldl mb1 (falses 10)
theorem mb1_size (t : Array Value) (x : Int) : (mb1 t x).size = t.size := by unfold mb1; split <;> simp
theorem mb_size' (l : List Int) (t : Array Value) : (l.foldl mb1 t).size = t.size := by
  induction l generalizing t with
  | nil => rfl
  | cons x l ih => rw [List.foldl_cons, ih, mb1_size]
theorem mb_size (l : List Int) : (mb l).size = 10 := by unfold mb; rw [mb_size']; simp [falses]
theorem mb_at' (l : List Int) (t : Array Value) (j : Nat) (b : Bool) (h : t[j]? = some (.bool b)) (hj : j < 10) : (l.foldl mb1 t)[j]? = some (.bool (b || decide ((j : Int) ∈ l))) := by
  induction l generalizing t b with
  | nil => simpa using h
  | cons x l ih =>
    rw [List.foldl_cons]
    have hl : j < t.size := (Array.getElem?_eq_some_iff.1 h).1
    have : (mb1 t x)[j]? = some (.bool (b || decide ((j : Int) = x))) := by
      unfold mb1
      by_cases hx : (j : Int) = x
      · subst hx
        rw [if_pos ⟨by omega, by omega⟩]
        simp [hl]
      · split
        · rw [Array.getElem?_setIfInBounds_ne (by omega), h]; simp [hx]
        · rw [h]; simp [hx]
    rw [ih _ _ this]
    by_cases hx : (j : Int) = x <;> simp [hx]
theorem mb_at (l : List Int) (j : Nat) (hj : j < 10) : (mb l)[j]? = some (.bool (decide ((j : Int) ∈ l))) := by
  have := mb_at' l (falses 10) j false (by simp [falses, Array.getElem?_replicate, hj]) hj
  simpa [mb] using this
theorem mb_snoc (l : List Int) (x : Int) : mb (l ++ [x]) = mb1 (mb l) x := by simp [mb]
theorem cell_new' (w : World) (t : TypeId) (c : Array Value) (j : Nat) : (w.alloc (.cells c t)).cell? ⟨w.heap.size, j, none⟩ = c[j]? := cell_of_row _ _ j c t (0, 0) (heap_alloc_last w _)
theorem cell_old (w : World) (o : Obj) (g j : Nat) (h : g < w.heap.size) : (w.alloc o).cell? ⟨g, j, none⟩ = w.cell? ⟨g, j, none⟩ := World.cell?_alloc_lt w o _ h

def okAll (l : List Int) (cs : List UInt8) : Bool := cs.all fun c => decide (cls c.toNat ∈ l)
theorem okAll_snoc (l : List Int) (a : List UInt8) (c : UInt8) : okAll l (a ++ [c]) = (okAll l a && decide (cls c.toNat ∈ l)) := by simp [okAll]

theorem okAll_false {l : List Int} {s : ByteArray} {k : Nat} (h : k < s.size) (hn : cls s[k].toNat ∉ l) : okAll l s.data.toList = false := by
  unfold okAll
  rw [List.all_eq_false]
  exact ⟨s[k], Array.mem_toList_iff.2 (Array.getElem_mem (xs := s.data) h), by simpa using hn⟩

set_option maxHeartbeats 4000000 in
set_option maxRecDepth 100000 in
theorem all_any (s : ByteArray) (A : Option Addr) (c : Nat) (l : List Int) (w : World) (hs : s.size ≤ 140737488351232) (hr : Kd.C (Kd.int .i64) w A l.length l) :
    Calls Try.prog 24 #[.string s, .slice A l.length c] w fun e w' => e = .returned (.bool (okAll l s.data.toList)) ∧ Below w.heap.size w w' := by
  have za := (zero_of_info z54).1
  have zb := (zero_of_info z56).1
  have hll : l.length ≤ 9223372036854775807 := hr.2.1
  have HR := Aside0.mk hr
  clear hr
  have HI := Lib.hid (show (Try.prog.info? 54).map (·.size) = some (cs 10).size by rw [cs_size]; kernel_rfl)
  have HO := Lib.hid (show (cs 10).all (·.oneCell') = true by decide +kernel)
  go_enter Try.func24, Try.ntmps24
  go_wp2_with fail
  refine (classes_any _).mono ?_
  rintro e w1 ⟨rfl, hw1⟩
  have hb1 := Lib.hid (show Below w.heap.size w w1 by rw [hw1]; exact (Below.refl _ _).alloc (Nat.le_refl _) _)
  clear hw1
  go_wp2_with (refine wpList_store_row rfl 54 _ _ rfl w1.heap.size (cs 10) rfl rfl 54 (zeros 256) (heap_alloc_last w1 _) HI.out (by rw [cs_size]; simp [zeros]) HO.out ?_; rw [World.setRow_alloc_new])
  obtain ⟨w2, hw2⟩ : ∃ w2 : World, w2 = w1.alloc (.cells (cs 10) 54) := ⟨_, rfl⟩
  rw [← hw2]
  have hz2 : w1.heap.size + 1 = w2.heap.size := by rw [hw2]; simp
  have HT : ∀ (x : UInt8) (o : Obj), (w2.alloc o).cell? ⟨w1.heap.size, x.toNat, none⟩ = some (.int .i64 (cls x.toNat)) := fun x o => by
    rw [cell_old _ _ _ _ (by omega), hw2, cell_new', cs_at _ x.toNat_lt]
  have hb2 := Lib.hid (show Below w.heap.size w w2 by rw [hw2]; exact hb1.out.alloc hb1.out.size _)
  clear hw2 hb1 za zb HI HO
  rw [hz2]
  have HT' := Lib.hid HT
  clear HT
  have hw1 := Lib.hid (show w1.heap.size < w2.heap.size by omega)
  clear hz2
  go_loopw [13] (fun i wr => ∃ j : Nat, j ≤ l.length ∧ i = .int .i64 j ∧ wr = w2.alloc (.cells (mb (l.take j)) 56)) (fun i _ => l.length - (intOf i).toNat)
  case atStart => exact ⟨0, by omega, rfl, rfl⟩
  case round =>
    obtain ⟨j, hj, rfl, rfl⟩ := hrel
    by_cases hlt : j < l.length
    · obtain ⟨ad, rfl, hx⟩ := Kd.at_int (Kd.C_below HR.out (hb2.out.alloc hb2.out.size (.cells (mb (l.take j)) 56))) (j : Int) (by omega) (by omega)
      have hts : Hid (l.take (j + 1) = l.take j ++ [rd l (j : Int)]) := by
        show l.take (j + 1) = _
        rw [List.take_succ_eq_append_getElem hlt]
        simp [rd, List.getElem?_eq_getElem hlt]
      rw [Int.toNat_natCast] at hx
      generalize rd l (j : Int) = x at *
      have hsz := mb_size (l.take j)
      by_cases h0 : 0 ≤ x
      · by_cases h1 : x < 10
        · obtain ⟨v, hc⟩ : ∃ v, (mb (l.take j))[x.toNat]? = some v := ⟨_, Array.getElem?_eq_getElem (show x.toNat < (mb (l.take j)).size by omega)⟩
          clear hsz
          go_wp2
          go_roundw
          case rel => refine ⟨j + 1, by omega, by go_num, ?_⟩; rw [hts.out, mb_snoc, mb1, if_pos ⟨h0, h1⟩]
          case measure => simp [intOf]; omega
        · clear hsz
          go_wp2
          go_roundw
          case rel => refine ⟨j + 1, by omega, by go_num, ?_⟩; rw [hts.out, mb_snoc, mb1, if_neg (by omega)]
          case measure => simp [intOf]; omega
      · clear hsz
        go_wp2
        go_roundw
        case rel => refine ⟨j + 1, by omega, by go_num, ?_⟩; rw [hts.out, mb_snoc, mb1, if_neg (by omega)]
        case measure => simp [intOf]; omega
    · have hj' : j = l.length := by omega
      clear hlt hj
      subst hj'
      rw [List.take_length]
      have hb3 := Lib.hid (hb2.out.alloc hb2.out.size (.cells (mb l) 56))
      have HM := Lib.hid (fun (n : Int) (h0 : 0 ≤ n) (h1 : n < 10) => show (w2.alloc (.cells (mb l) 56)).cell? ⟨w2.heap.size, n.toNat, none⟩ = some (.bool (decide (n ∈ l))) by
        rw [cell_new', mb_at l n.toNat (by omega), show ((n.toNat : Nat) : Int) = n by omega])
      go_wp2
      go_loopw [28] (fun i wr => ∃ k : Nat, k ≤ s.size ∧ i = .int .i64 k ∧ Hid (okAll l (s.data.toList.take k) = true) ∧ wr = w2.alloc (.cells (mb l) 56)) (fun i _ => s.size - (intOf i).toNat)
      case atStart => exact ⟨0, by omega, rfl, by simp [okAll, Hid], rfl⟩
      case round =>
        obtain ⟨k, hk, rfl, hok, rfl⟩ := hrel
        by_cases hlt : k < s.size
        · have hts := Lib.hid (take_snoc s k hlt)
          have hb8 : ((s[k]).toNat : Int) < 256 := by have := s[k].toNat_lt; omega
          have hT := HT'.out s[k] (.cells (mb l) 56)
          obtain ⟨hc0, hc1⟩ := cls_range s[k].toNat
          have hM := HM.out _ hc0 hc1
          by_cases hin : cls s[k].toNat ∈ l
          · simp only [hin, decide_true] at hM
            go_wp2
            go_roundw
            case rel => exact ⟨k + 1, by omega, by go_num, by rw [Hid, hts.out, okAll_snoc, hok.out]; simp [hin], trivial⟩
            case measure => simp [intOf]; omega
          · simp only [hin, decide_false] at hM
            go_wp2
            go_ret
            exact ⟨by simp [okAll_false hlt hin], hb3.out⟩
        · have hk' : s.size ≤ k := by omega
          go_wp2
          go_ret
          have hok' := hok.out
          rw [List.take_of_length_le (by simpa using hk')] at hok'
          exact ⟨by simp [hok'], hb3.out⟩

theorem cls_digit : ∀ c : Fin 256, (cls c.val == 1) = (decide (48 ≤ c.val) && decide (c.val ≤ 57)) := by decide +kernel
theorem cls_one (c : UInt8) : cls c.toNat = 1 ↔ 48 ≤ c.toNat ∧ c.toNat ≤ 57 := by
  have h := cls_digit ⟨c.toNat, c.toNat_lt⟩
  rw [Bool.eq_iff_iff] at h
  simpa using h
theorem okAll_digits {l : List UInt8} (h : okAll [1] l = true) : ∀ c ∈ l, 48 ≤ c.toNat ∧ c.toNat ≤ 57 := by
  intro c hc
  have := List.all_eq_true.1 h c hc
  exact (cls_one c).1 (by simpa using this)
theorem okAll_iff {l : List UInt8} : okAll [1] l = true ↔ ∀ c ∈ l, 48 ≤ c.toNat ∧ c.toNat ≤ 57 :=
  ⟨okAll_digits, fun h => List.all_eq_true.2 fun c hc => by simpa using (cls_one c).2 (h c hc)⟩
theorem wrap_u64 (n : Int) : IntKind.u64.wrap n = n % 18446744073709551616 := by simp [IntKind.wrap, IntKind.bits, IntKind.signed]
theorem ext0_size {s : ByteArray} {j : Int} (h : j ≤ (s.size : Int)) : (s.extract 0 j.toNat).size = j.toNat := by
  rw [ByteArray.size_extract]; omega
theorem ext1_size {s : ByteArray} {j : Int} : (s.extract j.toNat s.size).size = s.size - j.toNat := by
  rw [ByteArray.size_extract]; omega
theorem cat1 {s y : ByteArray} {j : Int} (h : j ≤ (s.size : Int)) (c : (s.extract 0 j.toNat).size + y.size ≤ 9223372036854775807) : (9223372036854775807 < j.toNat + y.size) = False := by
  rw [ext0_size h] at c
  exact eq_false (by omega)
theorem cat2 {s y : ByteArray} {j : Int} (h : j ≤ (s.size : Int)) (c : ((s.extract 0 j.toNat) ++ y).size + (s.extract j.toNat s.size).size ≤ 9223372036854775807) : (9223372036854775807 < j.toNat + y.size + (s.size - j.toNat)) = False := by
  rw [ByteArray.size_append, ext0_size h, ext1_size] at c
  exact eq_false (by omega)
end Go.Proofs.Ytgldbbgcdpgbcaa.Oct
