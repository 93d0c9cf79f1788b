/- The contract of number.Next, walked by hand, under the contract of number.May. -/
import Derived.Test.YtgldbbgcdpgbcaaOct
import Derived.Laws.IdiomStrings
set_option linter.unusedVariables false
set_option linter.unusedSimpArgs false
namespace Go.Proofs.Ytgldbbgcdpgbcaa.Oct
open Go.RowKit Go.Proofs.YtgldbbgcdpgbcaaW.PrintWords

/-- One more, the digits in their order backwards. -/
def incRev : List UInt8 → List UInt8
  | [] => [49]
  | c :: r => if c.toNat < 57 then (c + 1) :: r else 48 :: incRev r
def inc (l : List UInt8) : List UInt8 := (incRev l.reverse).reverse
theorem inc_snoc (l : List UInt8) (c : UInt8) : inc (l ++ [c]) = if c.toNat < 57 then l ++ [c + 1] else inc l ++ [48] := by
  unfold inc
  rw [List.reverse_append]
  simp only [List.reverse_cons, List.reverse_nil, List.nil_append, List.cons_append, incRev]
  split <;> simp
theorem inc_nil : inc [] = [49] := rfl

theorem str_cons (c : UInt8) (l : List UInt8) : ((⟨#[c]⟩ : ByteArray) ++ (⟨l.toArray⟩ : ByteArray)) = ⟨(c :: l).toArray⟩ := by
  apply ByteArray.ext
  rw [ByteArray.data_append]
  simp
theorem toNat_add_one (c : UInt8) (h : c.toNat < 57) : ((c + 1).toNat : Int) = (c.toNat : Int) + 1 := by
  have : (c + 1).toNat = c.toNat + 1 := by rw [UInt8.toNat_add]; simp; omega
  rw [this]; simp

/-- A block whose first cells are bytes, none frozen. -/
structure Bts (w : World) (g : Nat) (l : List UInt8) : Prop where
  cell : ∀ j c, l[j]? = some c → w.cell? ⟨g, j, none⟩ = some (.int .u8 (c.toNat : Int))
  free : ∀ j, j < l.length → w.frozen? ⟨g, j, none⟩ = false
theorem Bts.set_ {w : World} {g : Nat} {l : List UInt8} (h : Bts w g l) (i : Nat) (c : UInt8) (hi : i < l.length) : Bts (w.setCell ⟨g, i, none⟩ (.int .u8 (c.toNat : Int))) g (l.set i c) := by
  refine ⟨fun j d hd => ?_, fun j hj => ?_⟩
  · rw [List.getElem?_set] at hd
    by_cases e : i = j
    · subst e
      rw [if_pos rfl, if_pos hi] at hd
      obtain rfl := Option.some.inj hd
      exact World.cell?_setCell_same _ _ _ (h.cell i _ (List.getElem?_eq_getElem hi))
    · rw [if_neg e] at hd
      rw [World.cell?_setCell_other _ _ _ _ (fun q => e (by injection q))]
      exact h.cell j d hd
  · rw [World.frozen?_setCell]
    exact h.free j (by simpa using hj)
theorem Bts.drew {w : World} {g : Nat} {l : List UInt8} (h : Bts w g l) : Bts w.drew g l := ⟨h.cell, h.free⟩
theorem Bts.of_row (w : World) (s : ByteArray) (cap : Nat) : Bts (w.alloc (.cells (bytesRow s cap) 5 ((bytesRow s cap).size, (bytesRow s cap).size + 1))) w.heap.size s.data.toList := by
  refine ⟨fun j c hj => ?_, fun j hj => ?_⟩
  · have hl : j < s.data.toList.length := (List.getElem?_eq_some_iff.1 hj).1
    rw [World.cell?_alloc_mark, bytesRow_at s cap j (by simpa using hl)]
    rw [List.getElem?_eq_getElem hl] at hj
    obtain rfl := Option.some.inj hj
    simp
  · rw [World.frozen?_alloc_mark]
    have : s.size ≤ (bytesRow s cap).size := by unfold bytesRow; simp
    have h2 : j < s.size := by simpa using hj
    simp
    omega
theorem Bts.back {w : World} {g cap : Nat} {l : List UInt8} (h : Bts w g l) : (convert 31 9 (.slice (some ⟨g, 0, none⟩) l.length cap)).run Try.prog w = .ok (.string ⟨l.toArray⟩) w :=
  run_convert_bytes_back w 31 9 5 ⟨g, 0, none⟩ cap l Try.underlying31 Try.underlying5 Try.underlying9 (fun j hj => by
    have ha : (⟨g, 0, none⟩ : Addr).add j = ⟨g, j, none⟩ := by unfold Addr.add; split <;> simp_all
    rw [ha]
    exact h.cell j _ (List.getElem?_eq_getElem hj))

/-- What the text is when all places from m on were 9. -/
def tail0 (l : List UInt8) (m : Nat) : List UInt8 := l.take m ++ List.replicate (l.length - m) 48
theorem tail0_length (l : List UInt8) (m : Nat) (h : m ≤ l.length) : (tail0 l m).length = l.length := by simp [tail0]; omega
theorem tail0_at (l : List UInt8) (m : Nat) (h : m < l.length) : (tail0 l (m + 1))[m]? = some l[m] := by
  unfold tail0
  rw [List.getElem?_append_left (by simp; omega), List.getElem?_take_of_lt (by omega), List.getElem?_eq_getElem h]
theorem tail0_set (l : List UInt8) (m : Nat) (h : m < l.length) (c : UInt8) : (tail0 l (m + 1)).set m c = l.take m ++ c :: List.replicate (l.length - (m + 1)) 48 := by
  unfold tail0
  rw [List.take_succ_eq_append_getElem h, List.append_assoc, List.set_append_right _ _ (by simp; omega)]
  simp [Nat.min_eq_left (Nat.le_of_lt h)]
theorem tail0_step (l : List UInt8) (m : Nat) (h : m < l.length) : (tail0 l (m + 1)).set m 48 = tail0 l m := by
  rw [tail0_set l m h, tail0, show l.length - m = (l.length - (m + 1)) + 1 by omega, List.replicate_succ]
/-- What is told of a place: as if the loop began there. -/
def Inc (l : List UInt8) (m : Nat) : Prop := inc l = inc (l.take m) ++ List.replicate (l.length - m) 48
theorem Inc.start (l : List UInt8) : Inc l l.length := by simp [Inc]
theorem Inc.step {l : List UInt8} {m : Nat} (h : m < l.length) (hi : Inc l (m + 1)) (h9 : ¬ l[m].toNat < 57) : Inc l m := by
  unfold Inc at hi ⊢
  rw [hi, List.take_succ_eq_append_getElem h, inc_snoc, if_neg h9, show l.length - m = (l.length - (m + 1)) + 1 by omega, List.replicate_succ]
  simp
theorem Inc.stop {l : List UInt8} {m : Nat} (h : m < l.length) (hi : Inc l (m + 1)) (h9 : l[m].toNat < 57) : (tail0 l (m + 1)).set m (l[m] + 1) = inc l := by
  unfold Inc at hi
  rw [hi, List.take_succ_eq_append_getElem h, inc_snoc, if_pos h9, tail0_set l m h]
  simp
theorem Inc.all {l : List UInt8} (hi : Inc l 0) : inc l = 49 :: tail0 l 0 := by
  unfold Inc at hi
  rw [hi]
  simp [tail0, inc_nil]

set_option maxHeartbeats 4000000 in
set_option maxRecDepth 100000 in
theorem next_any (s : ByteArray) (b : Bool) (w : World) (hs : s.size ≤ 140737488351232)
    (hm : ∀ w, Calls Try.prog 11 #[.string s] w fun e w' => e = .returned (.bool b) ∧ Below w.heap.size w w') :
    Calls Try.prog 13 #[.string s] w fun e w' => e = .returned (if b then .tuple #[.string ⟨(inc s.data.toList).toArray⟩, .int .i64 0] else .tuple #[.string ByteArray.empty, .int .i64 1]) ∧ Below w.heap.size w w' := by
  have HM := Aside0.mk hm
  clear hm
  go_enter Try.func13, Try.ntmps13
  go_wp2_with fail
  refine (HM.out _).mono ?_
  rintro e w1 ⟨rfl, hb⟩
  have HB := Lib.hid hb
  clear hb HM
  cases b with
  | false =>
    go_wp2
    go_ret2
    exact ⟨rfl, HB.out⟩
  | true =>
    have hcv := run_bytes_of_string w1 9 31 5 s Try.underlying9 Try.underlying31 Try.underlying5
    go_wp2
    have hS : Hid (s.data.toList.length = s.size) := by simp [Hid]
    have hB0 := Lib.hid ((Bts.of_row w1 s (grownCap w1 s.size 0 5)).drew)
    have hBl0 := Lib.hid ((HB.out.alloc HB.out.size (.cells (bytesRow s (grownCap w1 s.size 0 5)) 5 ((bytesRow s (grownCap w1 s.size 0 5)).size, (bytesRow s (grownCap w1 s.size 0 5)).size + 1))).drew)
    have hg : Hid (w.heap.size ≤ w1.heap.size) := HB.out.size
    clear HB hcv
    generalize grownCap w1 s.size 0 5 = cap at *
    generalize w1.heap.size = g at *
    go_loopw [5] (fun v wr => ∃ m : Nat, m ≤ s.size ∧ v = .int .i64 ((m : Int) - 1) ∧ Hid (Bts wr g (tail0 s.data.toList m)) ∧ Hid (Inc s.data.toList m) ∧ Hid (Below w.heap.size w wr)) (fun v _ => (intOf v + 1).toNat)
    case atStart => exact ⟨s.size, by omega, rfl, by unfold Hid; unfold tail0; rw [hS.out]; simpa [hS.out, List.take_of_length_le] using hB0.out, by have := Inc.start s.data.toList; rw [hS.out] at this; exact this, hBl0⟩
    case round =>
      obtain ⟨m, hm, hv, hB, hI, hBl⟩ := hrel
      cases m with
      | zero =>
        rw [show (((0 : Nat) : Int) - 1) = -1 by omega] at hv
        subst hv
        have hcv := hB.out.back (cap := cap)
        rw [tail0_length _ _ (by omega), hS.out] at hcv
        have hfin := Lib.hid hI.out.all
        clear hI hB
        have hl1 : 1 + (tail0 s.data.toList 0).length ≤ 9223372036854775807 := by rw [tail0_length _ _ (by omega), hS.out]; omega
        go_wp2
        go_ret2
        exact ⟨by rw [hfin.out, str_cons]; simp, hBl.out⟩
      | succ m =>
        rw [show (((m + 1 : Nat) : Int) - 1) = (m : Int) by omega] at hv
        subst hv
        have hlt : m < s.data.toList.length := by rw [hS.out]; omega
        have hc := hB.out.cell m _ (tail0_at _ _ hlt)
        have hf := hB.out.free m (by rw [tail0_length _ _ (by omega)]; exact hlt)
        by_cases h9 : s.data.toList[m].toNat < 57
        · have hB2 := Lib.hid (hB.out.set_ m (s.data.toList[m] + 1) (by rw [tail0_length _ _ (by omega)]; exact hlt))
          have hst := hI.out.stop hlt h9
          have hB2' : Bts (wr.setCell ⟨g, m, none⟩ (.int .u8 ((s.data.toList[m] + 1).toNat : Int))) g (inc s.data.toList) := hst ▸ hB2.out
          have hcv := hB2'.back (cap := cap)
          have hv8 := toNat_add_one s.data.toList[m] h9
          rw [hv8] at hcv
          have hll : (inc s.data.toList).length = s.size := by rw [← hst, List.length_set, tail0_length _ _ (by omega), hS.out]
          rw [hll] at hcv
          clear hst hB2 hB2' hll hv8 hI hB
          have hbl2 := Lib.hid (hBl.out.setCell (p := ⟨g, m, none⟩) hg.out (.int .u8 ((s.data.toList[m].toNat : Int) + 1)))
          generalize s.data.toList[m] = c at *
          have h9i : (c.toNat : Int) < 57 := by omega
          have h9j : 0 ≤ (c.toNat : Int) := by omega
          clear h9
          go_wp2
          go_ret2
          exact ⟨rfl, hbl2.out⟩
        · have hB2 := Lib.hid (hB.out.set_ m 48 (by rw [tail0_length _ _ (by omega)]; exact hlt))
          rw [tail0_step _ _ hlt] at hB2
          have hI2 := Lib.hid (hI.out.step hlt h9)
          have hbl2 := Lib.hid (hBl.out.setCell (p := ⟨g, m, none⟩) hg.out (.int .u8 48))
          clear hI hB
          generalize s.data.toList[m] = c at *
          have h9i : 57 ≤ (c.toNat : Int) := by omega
          clear h9
          go_wp2
          go_roundw
          case rel => exact ⟨m, by omega, by go_num, hB2, hI2, hbl2⟩
          case measure => simp [intOf]
end Go.Proofs.Ytgldbbgcdpgbcaa.Oct
