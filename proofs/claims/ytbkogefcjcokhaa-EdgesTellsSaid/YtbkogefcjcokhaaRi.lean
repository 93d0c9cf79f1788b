/- Slices of int that a call has made; ref.Has; which numbers stand in Next and Back. -/
import Derived.Test.YtbkogefcjcokhaaFw
import Derived.Test.YtbkogefcjcokhaaPAllx6
set_option linter.unusedVariables false
set_option linter.unusedSimpArgs false
namespace Go.Proofs.Ytbkogefcjcokhaa.Ed
open Go.RowKit Go.Proofs.Ytbkogefcjcokhaa.PAll Go.Proofs.Ytbkogefcjcokhaa.Nm Go.Proofs.YtbkogefcjcokhaaW.PrintWords

def RdI (w : World) (v : Value) (xs : List Int) : Prop := ∃ A c, v = .slice A xs.length c ∧ xs.length ≤ c ∧ Kd.C (Kd.int .i64) w A xs.length xs
theorem RdI.below {w w1 : World} {v : Value} {l : List Int} (h : RdI w v l) (hb : Below w.heap.size w w1) : RdI w1 v l := by
  obtain ⟨A, c, e, hc, hr⟩ := h
  exact ⟨A, c, e, hc, Kd.C_below hr hb⟩
theorem OwnI.rd {w : World} {B : Nat} {v : Value} {l : List Int} (h : OwnI w B v l) : RdI w v l := by
  rcases h.2 with ⟨rfl, h0⟩ | ⟨g, cap, cur, rfl, hg, hh, hn, hm, hs, ht⟩
  · obtain rfl : l = [] := List.eq_nil_of_length_eq_zero h0
    exact ⟨none, 0, rfl, Nat.le_refl _, rfl, by simp, fun h => by simp at h⟩
  · refine ⟨_, cap, rfl, hn, rfl, by unfold maxLen at hm; omega, fun _ => ⟨_, rfl, fun j p hj => ⟨[.int .i64 p], rfl, rfl, fun i u hu => ?_⟩⟩⟩
    match i, hu with
    | 0, hu =>
      obtain rfl : Value.int .i64 p = u := by simpa using hu
      have := World.ownsRow.cells h rfl j (.int .i64 p) (by rw [List.getElem?_map, hj]; rfl)
      show w.cell? ((⟨g, 0, none⟩ : Addr).add (j * 1 + 0)) = _
      rw [Nat.mul_one, Nat.add_zero]
      exact this
theorem rdI_cell {w : World} {A : Option Addr} {xs : List Int} (h : Kd.C (Kd.int .i64) w A xs.length xs) (j : Nat) (hj : j < xs.length) : ∃ ad, A = some ad ∧ w.cell? (ad.add j) = some (.int .i64 xs[j]) := by
  obtain ⟨_, _, h⟩ := h
  obtain ⟨ad, e, h⟩ := h (by omega)
  obtain ⟨c, _, hk, hc⟩ := h j _ (List.getElem?_eq_getElem hj)
  have hk : c = [.int .i64 xs[j]] := hk
  subst hk
  refine ⟨ad, e, ?_⟩
  have h0 : w.cell? (ad.add (j * 1 + 0)) = some (.int .i64 xs[j]) := hc 0 _ rfl
  simpa using h0
theorem rd_natI (l : List Int) (i : Nat) (h : i < l.length) : rd l (i : Int) = l[i] := by
  unfold rd
  rw [Int.toNat_natCast, List.getD_eq_getElem?_getD, List.getElem?_eq_getElem h]
  rfl

/-! ref.Has -/
theorem has_l0 (xs : List Int) (n : Int) (hl : xs.length ≤ 100000) (d : Nat) : ∀ (k i : Nat), i + d = xs.length → d + 1 ≤ k → graftwoodref11_Has.l0 k xs n (i : Int) = some (decide (n ∈ xs.drop i)) := by
  induction d with
  | zero =>
    intro k i hi hk
    obtain ⟨k, rfl⟩ : ∃ m, k = m + 1 := ⟨k - 1, by omega⟩
    simp only [graftwoodref11_Has.l0]
    rw [if_neg (by omega), List.drop_of_length_le (by omega)]
    simp
  | succ d ih =>
    intro k i hi hk
    obtain ⟨k, rfl⟩ : ∃ m, k = m + 1 := ⟨k - 1, by omega⟩
    have hlt : i < xs.length := by omega
    have w1 : wrap64 ((i : Int) + 1) = ((i + 1 : Nat) : Int) := by unfold wrap64; omega
    simp only [graftwoodref11_Has.l0]
    rw [if_pos (by omega), if_pos (by omega), rd_natI xs i hlt, w1, ih k (i + 1) (by omega) (by omega), List.drop_eq_getElem_cons hlt]
    by_cases h : xs[i] = n
    · rw [if_pos h]; simp [h]
    · rw [if_neg h]
      congr 1
      rw [decide_eq_decide, List.mem_cons]
      exact ⟨fun q => .inr q, fun q => q.resolve_left (fun e => h e.symm)⟩
theorem has_rd {v : Value} {xs : List Int} {w : World} (h : RdI w v xs) (hl : xs.length ≤ 100000) (n : Int) : Calls Try.prog 22 #[v, .int .i64 n] w fun e w' => e = .returned (.bool (decide (n ∈ xs))) ∧ Below w.heap.size w w' := by
  obtain ⟨A, c, rfl, hc, hr⟩ := h
  have hf : graftwoodref11_Has.f 100003 xs n = some (decide (n ∈ xs)) := by
    have := has_l0 xs n hl xs.length 100003 0 (by omega) (by omega)
    rw [List.drop_zero] at this
    exact this
  refine (graftwoodref11_Has.calls 100003 A c xs n _ w hr hc hf).mono ?_
  rintro e w' ⟨rfl, hd⟩
  exact ⟨rfl, hd.below⟩

/-! Next and Back in plain words -/
theorem mem_next {k : List S33} {f t : Int} (h : Ok k) : t ∈ someL (sel33 f) k ↔ 0 < many k f t := by
  unfold someL sel33
  constructor
  · intro hm
    obtain ⟨e, he, rfl⟩ := List.mem_map.1 hm
    obtain ⟨he, hf⟩ := List.mem_filter.1 he
    have hf : e.f0 = f := by simpa using hf
    rw [← hf]
    exact many_pos h he
  · intro hm
    obtain ⟨e, he, hp, _⟩ := many_mem (l := k) (f := f) (t := t) (by omega)
    exact List.mem_map.2 ⟨e, List.mem_filter.2 ⟨he, by simpa using hp.1⟩, hp.2⟩
theorem mem_back {k : List S33} {f t : Int} (h : Ok k) : f ∈ someL (sel34 t) k ↔ 0 < many k f t := by
  unfold someL sel34
  constructor
  · intro hm
    obtain ⟨e, he, rfl⟩ := List.mem_map.1 hm
    obtain ⟨he, hf⟩ := List.mem_filter.1 he
    have hf : e.f1 = t := by simpa using hf
    rw [← hf]
    exact many_pos h he
  · intro hm
    obtain ⟨e, he, hp, _⟩ := many_mem (l := k) (f := f) (t := t) (by omega)
    exact List.mem_map.2 ⟨e, List.mem_filter.2 ⟨he, by simpa using hp.2⟩, hp.1⟩
theorem next_sorted {k : List S33} (f : Int) (h : Ok k) : (someL (sel33 f) k).Pairwise (· < ·) := by
  unfold someL sel33
  rw [List.pairwise_map, List.pairwise_filter]
  refine h.2.imp ?_
  intro a b hab ha hb
  have ha : a.f0 = f := by simpa using ha
  have hb : b.f0 = f := by simpa using hb
  unfold klt at hab
  show a.f1 < b.f1
  omega
theorem back_sorted {k : List S33} (t : Int) (h : Ok k) : (someL (sel34 t) k).Pairwise (· < ·) := by
  unfold someL sel34
  rw [List.pairwise_map, List.pairwise_filter]
  refine h.2.imp ?_
  intro a b hab ha hb
  have ha : a.f1 = t := by simpa using ha
  have hb : b.f1 = t := by simpa using hb
  unfold klt at hab
  show a.f0 < b.f0
  omega
theorem sorted_at {xs : List Int} (h : xs.Pairwise (· < ·)) (i : Nat) (h0 : 0 < i) (hi : i < xs.length) : xs[i - 1] < xs[i] := List.pairwise_iff_getElem.1 h (i - 1) i (by omega) hi (by omega)
end Go.Proofs.Ytbkogefcjcokhaa.Ed
