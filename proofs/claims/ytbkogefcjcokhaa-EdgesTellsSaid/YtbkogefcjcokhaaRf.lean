/- ref.Many and ref.With in plain words. -/
import Derived.Test.YtbkogefcjcokhaaFw
import Derived.Test.YtbkogefcjcokhaaPAllx4
import Derived.Test.YtbkogefcjcokhaaPAllx5
set_option linter.unusedVariables false
set_option linter.unusedSimpArgs false
namespace Go.Proofs.Ytbkogefcjcokhaa.Ed
open Go.RowKit Go.Proofs.Ytbkogefcjcokhaa.PAll Go.Proofs.Ytbkogefcjcokhaa.Nm Go.Proofs.YtbkogefcjcokhaaW.PrintWords

theorem rmany_l0 (l : List S33) (hok : Ok l) (f t : Int) (hl : l.length ≤ 1000) (d : Nat) : ∀ (k i : Nat) (acc : Int), i + d = l.length → d + 1 ≤ k → 0 ≤ acc → acc ≤ most → (acc = 0 ∨ ∀ x ∈ l.drop i, ¬ isP x f t) →
    graftwoodref11_Many.l0 k l f t acc (i : Int) = some (acc + many (l.drop i) f t) := by
  induction d with
  | zero =>
    intro k i acc hi hk h0 h1 h2
    obtain ⟨k, rfl⟩ : ∃ m, k = m + 1 := ⟨k - 1, by omega⟩
    simp only [graftwoodref11_Many.l0]
    rw [if_neg (by omega), List.drop_of_length_le (by omega)]
    simp [many]
  | succ d ih =>
    intro k i acc hi hk h0 h1 h2
    obtain ⟨k, rfl⟩ : ∃ m, k = m + 1 := ⟨k - 1, by omega⟩
    have hlt : i < l.length := by omega
    have w1 : wrap64 ((i : Int) + 1) = ((i + 1 : Nat) : Int) := by unfold wrap64; omega
    simp only [graftwoodref11_Many.l0]
    have hd : l.drop i = l[i] :: l.drop (i + 1) := List.drop_eq_getElem_cons hlt
    have hokd : Ok (l[i] :: l.drop (i + 1)) := by
      rw [← hd]
      exact ⟨fun x hx => hok.1 x (List.mem_of_mem_drop hx), hok.2.sublist (List.drop_sublist i l)⟩
    obtain ⟨ok1, ok2, _⟩ := hokd.tail
    rw [if_pos (by omega), if_pos (by omega), rd_nat l i hlt, hd, w1]
    rw [hd] at h2
    generalize l[i] = e at *
    rw [many]
    by_cases hp : isP e f t
    · rw [if_pos hp.1, if_pos hp.2, if_pos hp]
      have hacc : acc = 0 := by
        rcases h2 with h2 | h2
        · exact h2
        · exact absurd hp (h2 e (by simp))
      subst hacc
      unfold okE most at ok1
      have w2 : wrap64 (0 + e.f2) = e.f2 := by unfold wrap64; omega
      have hout : ∀ x ∈ l.drop (i + 1), ¬ isP x f t := fun x hx q => by
        have := ok2 x hx
        unfold klt at this; unfold isP at hp q
        omega
      rw [w2, ih k (i + 1) e.f2 (by omega) (by omega) (by omega) (by unfold most; omega) (.inr hout), many_out hout]
      congr 1
      omega
    · rw [if_neg hp]
      have hih := ih k (i + 1) acc (by omega) (by omega) h0 h1 (h2.imp id fun q x hx => q x (by simp [hx]))
      by_cases h3 : e.f0 = f
      · rw [if_pos h3, if_neg (fun q => hp ⟨h3, q⟩), hih]
      · rw [if_neg h3, hih]
theorem rmany_rd {v : Value} {l : List S33} {w : World} (h : Rd w v l) (hok : Ok l) (hl : l.length ≤ 1000) (f t : Int) : Calls Try.prog 14 #[v, .int .i64 f, .int .i64 t] w fun e w' => e = .returned (.int .i64 (many l f t)) ∧ Below w.heap.size w w' := by
  obtain ⟨A, c, rfl, hc, hA, hr⟩ := h
  have hf : graftwoodref11_Many.f 1003 l f t = some (many l f t) := by
    have := rmany_l0 l hok f t hl l.length 1003 0 0 (by omega) (by omega) (by omega) (by decide) (.inl rfl)
    rw [List.drop_zero, Int.zero_add] at this
    exact this
  refine (graftwoodref11_Many.calls 1003 A c l f t _ w hr hc hf).mono ?_
  rintro e w' ⟨rfl, hd⟩
  exact ⟨rfl, hd.below⟩

/-! ref.With -/
theorem less_f (a b : S33) : graftwoodref11_Less.f a.f0 a.f1 a.f2 b.f0 b.f1 b.f2 = some (decide (klt a b)) := by
  unfold graftwoodref11_Less.f
  by_cases h1 : a.f0 < b.f0
  · rw [if_pos h1, decide_eq_true (klt_def.2 (.inl h1))]
  · rw [if_neg h1]
    by_cases h2 : a.f0 = b.f0
    · rw [if_pos h2]
      congr 1
      rw [decide_eq_decide, klt_def]
      omega
    · rw [if_neg h2, decide_eq_false (klt_not (by omega))]
theorem with_l1 (l : List S33) (x : S33) (hl : l.length ≤ 1000) (d : Nat) : ∀ (k i : Nat) (acc : List S33), i + d = l.length → d + 1 ≤ k → acc.length ≤ 100000 + i →
    graftwoodref11_With.l1 k l acc (i : Int) x.f0 x.f1 x.f2 = some (acc ++ (l.drop i).filter fun e => decide (klt x e)) := by
  induction d with
  | zero =>
    intro k i acc hi hk ha
    obtain ⟨k, rfl⟩ : ∃ m, k = m + 1 := ⟨k - 1, by omega⟩
    simp only [graftwoodref11_With.l1]
    rw [if_neg (by omega), List.drop_of_length_le (by omega)]
    simp
  | succ d ih =>
    intro k i acc hi hk ha
    obtain ⟨k, rfl⟩ : ∃ m, k = m + 1 := ⟨k - 1, by omega⟩
    have hlt : i < l.length := by omega
    have w1 : wrap64 ((i : Int) + 1) = ((i + 1 : Nat) : Int) := by unfold wrap64; omega
    simp only [graftwoodref11_With.l1]
    rw [if_pos (by omega), if_pos (by omega), rd_nat l i hlt, w1, less_f, Option.bind_some, List.drop_eq_getElem_cons hlt]
    by_cases h : klt x l[i]
    · rw [if_pos (decide_eq_true h), if_pos (by omega), ih k (i + 1) _ (by omega) (by omega) (by simp; omega), List.filter_cons]
      simp [h]
    · rw [if_neg (by simpa using h), ih k (i + 1) _ (by omega) (by omega) (by omega), List.filter_cons]
      simp [h]
theorem with_l0 (l : List S33) (x : S33) (hl : l.length ≤ 1000) (d : Nat) : ∀ (k i : Nat) (acc : List S33), i + d = l.length → d + 1010 ≤ k → acc.length ≤ i →
    graftwoodref11_With.l0 k l acc (i : Int) x.f0 x.f1 x.f2 = some (acc ++ (l.drop i).filter (fun e => decide (klt e x)) ++ (if x.f2 > 0 then [x] else []) ++ l.filter fun e => decide (klt x e)) := by
  induction d with
  | zero =>
    intro k i acc hi hk ha
    obtain ⟨k, rfl⟩ : ∃ m, k = m + 1 := ⟨k - 1, by omega⟩
    obtain ⟨m, rfl⟩ : ∃ m, k = m + 1 := ⟨k - 1, by omega⟩
    simp only [graftwoodref11_With.l0, graftwoodref11_With.j1]
    rw [if_neg (by omega), List.drop_of_length_le (by omega)]
    have h1 := with_l1 l x hl l.length m 0 (acc ++ [x]) (by omega) (by omega) (by simp; omega)
    have h2 := with_l1 l x hl l.length m 0 acc (by omega) (by omega) (by omega)
    rw [List.drop_zero] at h1 h2
    by_cases h : x.f2 > 0
    · rw [if_pos h, if_pos (by omega), if_pos h]
      show graftwoodref11_With.l1 m l (acc ++ [x]) 0 _ _ _ = _
      rw [show (0 : Int) = ((0 : Nat) : Int) from rfl, h1]
      simp
    · rw [if_neg h, if_neg h]
      rw [show (0 : Int) = ((0 : Nat) : Int) from rfl, h2]
      simp
  | succ d ih =>
    intro k i acc hi hk ha
    obtain ⟨k, rfl⟩ : ∃ m, k = m + 1 := ⟨k - 1, by omega⟩
    have hlt : i < l.length := by omega
    have w1 : wrap64 ((i : Int) + 1) = ((i + 1 : Nat) : Int) := by unfold wrap64; omega
    simp only [graftwoodref11_With.l0]
    rw [if_pos (by omega), if_pos (by omega), rd_nat l i hlt, w1, less_f, Option.bind_some, List.drop_eq_getElem_cons hlt]
    by_cases h : klt l[i] x
    · rw [if_pos (decide_eq_true h), if_pos (by omega), ih k (i + 1) _ (by omega) (by omega) (by simp; omega), List.filter_cons]
      simp [h]
    · rw [if_neg (by simpa using h), ih k (i + 1) _ (by omega) (by omega) (by omega), List.filter_cons]
      simp [h]
def withL (l : List S33) (x : S33) : List S33 := l.filter (fun e => decide (klt e x)) ++ (if x.f2 > 0 then [x] else []) ++ l.filter fun e => decide (klt x e)
theorem with_rd {v : Value} {l : List S33} {w : World} (h : Rd w v l) (hl : l.length ≤ 1000) (x : S33) : Calls Try.prog 16 #[v, .agg #[.int .i64 x.f0, .int .i64 x.f1, .int .i64 x.f2]] w fun e w' => ∃ u, e = .returned u ∧ Rd w' u (withL l x) ∧ Below w.heap.size w w' := by
  obtain ⟨A, c, rfl, hc, hA, hr⟩ := h
  have hf : graftwoodref11_With.f 3000 l x.f0 x.f1 x.f2 = some (withL l x) := by
    have := with_l0 l x hl l.length 3000 0 [] (by omega) (by omega) (by simp)
    rw [List.drop_zero, List.nil_append] at this
    exact this
  refine (graftwoodref11_With.calls 3000 A c l _ _ _ _ w hr hc hf).mono ?_
  rintro e w' ⟨u, rfl, hR, hb⟩
  refine ⟨u, rfl, ?_, hb⟩
  obtain ⟨B, d, hu, hd, hC⟩ := Kd.R_reads hR
  obtain ⟨_, inner, ho, _⟩ := hR
  refine ⟨B, d, hu, hd, fun hB => ?_, hC⟩
  rcases ho.2 with ⟨he, _⟩ | ⟨g, cap, cur, he, _⟩
  · rw [hu] at he
    injection he
  · rw [hu, hB] at he
    injection he with e1
    cases e1
theorem filter_none {r : List S33} {p : S33} (h : ∀ x ∈ r, ¬ klt x p) : r.filter (fun e => decide (klt e p)) = [] := List.filter_eq_nil_iff.2 fun x hx => by simpa using h x hx
theorem filter_all {r : List S33} {p : S33} (h : ∀ x ∈ r, klt p x) : r.filter (fun e => decide (klt p e)) = r := List.filter_eq_self.2 fun x hx => by simpa using h x hx
theorem filters (l : List S33) (hok : Ok l) (f t n : Int) : ∀ (X : List S33), l.filter (fun e => decide (klt e ⟨f, t, n⟩)) ++ X ++ l.filter (fun e => decide (klt ⟨f, t, n⟩ e)) =
    l.take (idx l f t) ++ X ++ l.drop (idx l f t + (if there l f t then 1 else 0)) := by
  intro X
  induction l with
  | nil => simp [idx]
  | cons e r ih =>
    obtain ⟨h1, h2, h3⟩ := hok.tail
    by_cases hk : klt e (pr f t)
    · have hk' : klt e ⟨f, t, n⟩ := hk
      have hn : ¬ klt ⟨f, t, n⟩ e := fun q => by unfold klt at hk' q; simp only at *; omega
      rw [idx_cons_lt hk, there_cons_lt hk, List.filter_cons, List.filter_cons, if_pos (decide_eq_true hk'), if_neg (by simpa using hn)]
      have := ih h3
      simp only [List.cons_append, List.take_succ_cons]
      rw [this, show idx r f t + 1 + (if there r f t = true then 1 else 0) = (idx r f t + (if there r f t = true then 1 else 0)) + 1 by omega, List.drop_succ_cons]
    · have hk' : ¬ klt e ⟨f, t, n⟩ := hk
      rw [idx_cons_ge hk, List.take_zero]
      have hr1 : ∀ x ∈ r, ¬ klt x ⟨f, t, n⟩ := fun x hx q => by
        have := h2 x hx
        unfold klt at *; simp only at *; omega
      by_cases hp : isP e f t
      · have hth : there (e :: r) f t = true := there_iff.2 ⟨e, by rw [idx_cons_ge hk]; rfl, hp⟩
        have hn : ¬ klt ⟨f, t, n⟩ e := fun q => by unfold klt at q; unfold isP at hp; simp only at *; omega
        have hr2 : ∀ x ∈ r, klt ⟨f, t, n⟩ x := fun x hx => by
          have := h2 x hx
          unfold klt at *; unfold isP at hp; simp only at *; omega
        rw [hth, List.filter_cons, List.filter_cons, if_neg (by simpa using hk'), if_neg (by simpa using hn), filter_none hr1, filter_all hr2]
        simp
      · have hth : there (e :: r) f t = false := by
          cases hq : there (e :: r) f t with
          | false => rfl
          | true =>
            obtain ⟨d, hd, hdp⟩ := there_iff.1 hq
            rw [idx_cons_ge hk] at hd
            obtain rfl : e = d := by simpa using hd
            exact absurd hdp hp
        have hn : klt ⟨f, t, n⟩ e := by
          rcases klt_tri e f t with q | q | q
          · exact absurd q hk
          · exact absurd q hp
          · exact q
        have hr2 : ∀ x ∈ r, klt ⟨f, t, n⟩ x := fun x hx => klt_trans hn (h2 x hx)
        rw [hth, List.filter_cons, List.filter_cons, if_neg (by simpa using hk'), if_pos (by simpa using hn), filter_none hr1, filter_all hr2]
        simp
theorem set_eq (l : List S33) (i : Nat) (hi : i < l.length) (x : S33) : l.set i x = l.take i ++ [x] ++ l.drop (i + 1) := by
  rw [List.set_eq_take_append_cons_drop, if_pos hi]
  simp
/-- With a pair once more, and once less. -/
theorem with_add {l : List S33} (hok : Ok l) (f t : Int) : withL l ⟨f, t, many l f t + 1⟩ = addL l f t := by
  have h0 := (many_range hok f t).1
  unfold withL
  rw [if_pos (by simp only; omega), filters l hok]
  by_cases hth : there l f t = true
  · obtain ⟨hi, hp, hm⟩ := there_at hok hth
    rw [addL_there hth hi, hm, set_eq _ _ hi, hth]
    rfl
  · have hth' : there l f t = false := by simpa using hth
    rw [addL_not hth', hth', there_not hok hth']
    simp
theorem with_drop {l : List S33} (hok : Ok l) (f t : Int) (hm : many l f t ≠ 0) : withL l ⟨f, t, many l f t - 1⟩ = dropL l f t := by
  have h0 := (many_range hok f t).1
  unfold withL
  by_cases hth : there l f t = true
  · obtain ⟨hi, hp, hmm⟩ := there_at hok hth
    rw [filters l hok, dropL_there hth hi, hmm, hth]
    by_cases h1 : many l f t = 1
    · rw [if_pos h1, if_neg (by simp only; omega)]
      simp
    · rw [if_neg h1, if_pos (by simp only; omega), set_eq _ _ hi]
      rfl
  · have hth' : there l f t = false := by simpa using hth
    exact absurd (there_not hok hth') hm
end Go.Proofs.Ytbkogefcjcokhaa.Ed
