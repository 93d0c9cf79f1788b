/- Plain laws of edges: lists in order, how often a pair is there, one more, one less. No program in sight but the edges' own type. -/
import Derived.Test.YtbkogefcjcokhaaPAllx0
set_option linter.unusedVariables false
set_option linter.unusedSimpArgs false
namespace Go.Proofs.Ytbkogefcjcokhaa.Nm
open Go.Proofs.Ytbkogefcjcokhaa.PAll

def most : Int := 1099511627776
def okE (e : S33) : Prop := -1 ≤ e.f0 ∧ 0 ≤ e.f1 ∧ 1 ≤ e.f2 ∧ e.f2 ≤ most
def klt (a b : S33) : Prop := a.f0 < b.f0 ∨ (a.f0 = b.f0 ∧ a.f1 < b.f1)
def isP (e : S33) (f t : Int) : Prop := e.f0 = f ∧ e.f1 = t
instance (e : S33) : Decidable (okE e) := inferInstanceAs (Decidable (_ ∧ _ ∧ _ ∧ _))
instance (a b : S33) : Decidable (klt a b) := inferInstanceAs (Decidable (_ ∨ _))
instance (e : S33) (f t : Int) : Decidable (isP e f t) := inferInstanceAs (Decidable (_ ∧ _))
def Ok (l : List S33) : Prop := (∀ e ∈ l, okE e) ∧ l.Pairwise klt
instance (l : List S33) : Decidable (Ok l) := inferInstanceAs (Decidable ((∀ e ∈ l, okE e) ∧ l.Pairwise klt))
/-- A pair as an edge that is held against others. -/
def pr (f t : Int) : S33 := ⟨f, t, 0⟩

theorem klt_trans {a b c : S33} (h : klt a b) (k : klt b c) : klt a c := by unfold klt at *; omega
theorem klt_irrefl (a : S33) : ¬ klt a a := by unfold klt; omega
theorem klt_tri (a : S33) (f t : Int) : klt a (pr f t) ∨ isP a f t ∨ klt (pr f t) a := by
  unfold klt isP pr; simp only; omega
theorem S33_ext {a b : S33} (h0 : a.f0 = b.f0) (h1 : a.f1 = b.f1) (h2 : a.f2 = b.f2) : a = b := by
  cases a; cases b; simp_all
theorem Ok.tail {e : S33} {l : List S33} (h : Ok (e :: l)) : okE e ∧ (∀ x ∈ l, klt e x) ∧ Ok l := by
  obtain ⟨h1, h2⟩ := h
  rw [List.pairwise_cons] at h2
  exact ⟨h1 e (by simp), h2.1, fun x hx => h1 x (by simp [hx]), h2.2⟩
theorem Ok.cons {e : S33} {l : List S33} (he : okE e) (hl : ∀ x ∈ l, klt e x) (h : Ok l) : Ok (e :: l) := by
  refine ⟨fun x hx => ?_, List.pairwise_cons.2 ⟨hl, h.2⟩⟩
  rcases List.mem_cons.1 hx with rfl | hx
  · exact he
  · exact h.1 x hx
theorem Ok.nil : Ok [] := ⟨fun x hx => by simp at hx, List.Pairwise.nil⟩

/-- How often a pair is there. -/
def many : List S33 → Int → Int → Int
  | [], _, _ => 0
  | e :: r, f, t => if isP e f t then e.f2 else many r f t
theorem many_out {l : List S33} {f t : Int} (h : ∀ x ∈ l, ¬ isP x f t) : many l f t = 0 := by
  induction l with
  | nil => rfl
  | cons e l ih => rw [many, if_neg (h e (by simp))]; exact ih fun x hx => h x (by simp [hx])
theorem many_in {l : List S33} (h : Ok l) {e : S33} (he : e ∈ l) : many l e.f0 e.f1 = e.f2 := by
  induction l with
  | nil => simp at he
  | cons d l ih =>
    obtain ⟨_, h2, h3⟩ := h.tail
    rw [many]
    rcases List.mem_cons.1 he with rfl | he
    · rw [if_pos ⟨rfl, rfl⟩]
    · rw [if_neg (fun q => by have := h2 e he; unfold klt at this; unfold isP at q; omega)]
      exact ih h3 he
theorem many_pos {l : List S33} (h : Ok l) {e : S33} (he : e ∈ l) : 0 < many l e.f0 e.f1 := by
  rw [many_in h he]
  have := h.1 e he
  unfold okE at this
  omega
theorem many_range {l : List S33} (h : Ok l) (f t : Int) : 0 ≤ many l f t ∧ many l f t ≤ most := by
  induction l with
  | nil => exact ⟨by simp [many], by simp [many, most]⟩
  | cons e l ih =>
    obtain ⟨h1, _, h3⟩ := h.tail
    rw [many]
    split
    · unfold okE at h1; omega
    · exact ih h3
theorem many_mem {l : List S33} {f t : Int} (h : many l f t ≠ 0) : ∃ e ∈ l, isP e f t ∧ e.f2 = many l f t := by
  induction l with
  | nil => exact absurd rfl h
  | cons e l ih =>
    rw [many] at h ⊢
    by_cases hp : isP e f t
    · rw [if_pos hp]; exact ⟨e, by simp, hp, rfl⟩
    · rw [if_neg hp] at h ⊢
      obtain ⟨d, h1, h2⟩ := ih h
      exact ⟨d, by simp [h1], h2⟩
/-- Edges that may be are told by how often each pair is there. -/
theorem ext {a b : List S33} (ha : Ok a) (hb : Ok b) (h : ∀ f t, many a f t = many b f t) : a = b := by
  induction a generalizing b with
  | nil =>
    cases b with
    | nil => rfl
    | cons e b =>
      have := many_pos hb (e := e) (by simp)
      rw [← h] at this
      simp [many] at this
  | cons d a ih =>
    cases b with
    | nil =>
      have := many_pos ha (e := d) (by simp)
      rw [h] at this
      simp [many] at this
    | cons e b =>
      obtain ⟨a1, a2, a3⟩ := ha.tail
      obtain ⟨b1, b2, b3⟩ := hb.tail
      have hde : isP d e.f0 e.f1 := by
        have h1 := many_pos ha (e := d) (by simp)
        have h2 := many_pos hb (e := e) (by simp)
        rw [h] at h1
        rw [← h] at h2
        obtain ⟨x, x1, x2, _⟩ := many_mem (l := e :: b) (f := d.f0) (t := d.f1) (by omega)
        obtain ⟨y, y1, y2, _⟩ := many_mem (l := d :: a) (f := e.f0) (t := e.f1) (by omega)
        rcases List.mem_cons.1 x1 with rfl | x1
        · exact ⟨x2.1.symm, x2.2.symm⟩
        · rcases List.mem_cons.1 y1 with rfl | y1
          · exact y2
          · have q1 := b2 x x1
            have q2 := a2 y y1
            unfold isP at x2 y2
            unfold klt at q1 q2
            omega
      have hd2 : d.f2 = e.f2 := by
        have h1 := h e.f0 e.f1
        rw [many, if_pos hde, many, if_pos ⟨rfl, rfl⟩] at h1
        exact h1
      have he : d = e := S33_ext hde.1 hde.2 hd2
      subst he
      congr 1
      refine ih a3 b3 fun f t => ?_
      have h1 := h f t
      rw [many, many] at h1
      by_cases hp : isP d f t
      · rw [many_out (fun x hx q => by have := a2 x hx; unfold klt at this; unfold isP at hp q; omega), many_out (fun x hx q => by have := b2 x hx; unfold klt at this; unfold isP at hp q; omega)]
      · rw [if_neg hp, if_neg hp] at h1
        exact h1

/-! one more -/
def addL : List S33 → Int → Int → List S33
  | [], f, t => [⟨f, t, 1⟩]
  | e :: r, f, t => if isP e f t then ⟨f, t, e.f2 + 1⟩ :: r else if klt e (pr f t) then e :: addL r f t else ⟨f, t, 1⟩ :: e :: r
theorem mem_addL {l : List S33} {f t : Int} {x : S33} (h : x ∈ addL l f t) : x ∈ l ∨ isP x f t := by
  induction l with
  | nil => simp only [addL, List.mem_singleton] at h; subst h; exact .inr ⟨rfl, rfl⟩
  | cons e l ih =>
    rw [addL] at h
    split at h
    · rcases List.mem_cons.1 h with rfl | h
      · exact .inr ⟨rfl, rfl⟩
      · exact .inl (by simp [h])
    · split at h
      · rcases List.mem_cons.1 h with rfl | h
        · exact .inl (by simp)
        · rcases ih h with h | h
          · exact .inl (by simp [h])
          · exact .inr h
      · rcases List.mem_cons.1 h with rfl | h
        · exact .inr ⟨rfl, rfl⟩
        · exact .inl h
theorem many_addL (l : List S33) (h : Ok l) (f t x y : Int) : many (addL l f t) x y = many l x y + (if x = f ∧ y = t then 1 else 0) := by
  induction l with
  | nil =>
    simp only [addL, many]
    by_cases hp : x = f ∧ y = t
    · rw [if_pos ⟨hp.1.symm, hp.2.symm⟩, if_pos hp]; simp
    · rw [if_neg (fun q => hp ⟨q.1.symm, q.2.symm⟩), if_neg hp]; simp
  | cons e l ih =>
    obtain ⟨h1, h2, h3⟩ := h.tail
    rw [addL]
    by_cases he : isP e f t
    · rw [if_pos he]
      simp only [many]
      by_cases hp : x = f ∧ y = t
      · have q1 : isP (⟨f, t, e.f2 + 1⟩ : S33) x y := ⟨hp.1.symm, hp.2.symm⟩
        have q2 : isP e x y := by unfold isP at *; omega
        rw [if_pos q1, if_pos q2, if_pos hp]
      · have q1 : ¬ isP (⟨f, t, e.f2 + 1⟩ : S33) x y := fun q => hp ⟨q.1.symm, q.2.symm⟩
        have q2 : ¬ isP e x y := fun q => by unfold isP at *; omega
        rw [if_neg q1, if_neg q2, if_neg hp]; simp
    · rw [if_neg he]
      by_cases hk : klt e (pr f t)
      · rw [if_pos hk]
        simp only [many]
        by_cases hp : isP e x y
        · have : ¬ (x = f ∧ y = t) := fun q => he (by unfold isP at *; omega)
          rw [if_pos hp, if_pos hp, if_neg this]; simp
        · rw [if_neg hp, if_neg hp, ih h3]
      · rw [if_neg hk]
        simp only [many]
        by_cases hp : x = f ∧ y = t
        · have q1 : isP (⟨f, t, 1⟩ : S33) x y := ⟨hp.1.symm, hp.2.symm⟩
          have q2 : ¬ isP e x y := fun q => he (by unfold isP at *; omega)
          have q3 : many l x y = 0 := many_out fun d hd q => by
            have := h2 d hd
            have := klt_tri e f t
            unfold klt isP pr at *
            simp only at *
            omega
          rw [if_pos q1, if_neg q2, if_pos hp, q3]; simp
        · have q1 : ¬ isP (⟨f, t, 1⟩ : S33) x y := fun q => hp ⟨q.1.symm, q.2.symm⟩
          rw [if_neg q1, if_neg hp]; simp
theorem addL_ok (l : List S33) (h : Ok l) (f t : Int) (hf : -1 ≤ f) (ht : 0 ≤ t) (hm : many l f t < most) : Ok (addL l f t) := by
  have h1m : (1 : Int) ≤ most := by decide
  induction l with
  | nil => exact Ok.cons ⟨hf, ht, by simp, h1m⟩ (fun x hx => by simp at hx) Ok.nil
  | cons e l ih =>
    obtain ⟨h1, h2, h3⟩ := h.tail
    rw [addL]
    rw [many] at hm
    by_cases he : isP e f t
    · rw [if_pos he] at hm ⊢
      refine Ok.cons ⟨hf, ht, by unfold okE at h1; simp only; omega, by simp only; omega⟩ (fun x hx => ?_) h3
      have := h2 x hx
      unfold klt isP at *
      simp only
      omega
    · rw [if_neg he] at hm ⊢
      by_cases hk : klt e (pr f t)
      · rw [if_pos hk]
        refine Ok.cons h1 (fun x hx => ?_) (ih h3 hm)
        rcases mem_addL hx with hx | hx
        · exact h2 x hx
        · unfold klt isP pr at *
          simp only at *
          omega
      · rw [if_neg hk]
        refine Ok.cons ⟨hf, ht, by simp, h1m⟩ (fun x hx => ?_) h
        have q := klt_tri e f t
        have q2 : klt (pr f t) e := by
          rcases q with q | q | q
          · exact absurd q hk
          · exact absurd q he
          · exact q
        have q3 : klt (⟨f, t, 1⟩ : S33) e := q2
        rcases List.mem_cons.1 hx with rfl | hx
        · exact q3
        · exact klt_trans q3 (h2 x hx)

/-! one less -/
def dropL : List S33 → Int → Int → List S33
  | [], _, _ => []
  | e :: r, f, t => if isP e f t then (if e.f2 = 1 then r else ⟨f, t, e.f2 - 1⟩ :: r) else if klt e (pr f t) then e :: dropL r f t else e :: r
theorem mem_dropL {l : List S33} {f t : Int} {x : S33} (h : x ∈ dropL l f t) : x ∈ l ∨ (isP x f t ∧ ∃ e ∈ l, isP e f t) := by
  induction l with
  | nil => simp [dropL] at h
  | cons e l ih =>
    rw [dropL] at h
    split at h
    · rename_i he
      split at h
      · exact .inl (by simp [h])
      · rcases List.mem_cons.1 h with rfl | h
        · exact .inr ⟨⟨rfl, rfl⟩, e, by simp, he⟩
        · exact .inl (by simp [h])
    · split at h
      · rcases List.mem_cons.1 h with rfl | h
        · exact .inl (by simp)
        · rcases ih h with h | ⟨h, d, hd, q⟩
          · exact .inl (by simp [h])
          · exact .inr ⟨h, d, by simp [hd], q⟩
      · exact .inl h
theorem many_dropL (l : List S33) (h : Ok l) (f t x y : Int) (hm : many l f t ≠ 0) : many (dropL l f t) x y = many l x y - (if x = f ∧ y = t then 1 else 0) := by
  induction l with
  | nil => exact absurd rfl hm
  | cons e l ih =>
    obtain ⟨h1, h2, h3⟩ := h.tail
    rw [many] at hm
    rw [dropL]
    by_cases he : isP e f t
    · rw [if_pos he]
      have hout : ∀ a b, isP e a b → many l a b = 0 := fun a b hab => many_out fun d hd q => by
        have := h2 d hd
        unfold klt isP at *
        omega
      by_cases hp : x = f ∧ y = t
      · have q2 : isP e x y := by unfold isP at *; omega
        rw [if_pos hp, many, if_pos q2]
        by_cases h1e : e.f2 = 1
        · rw [if_pos h1e, hout x y q2, h1e]; simp
        · rw [if_neg h1e, many, if_pos (show isP (⟨f, t, e.f2 - 1⟩ : S33) x y from ⟨hp.1.symm, hp.2.symm⟩)]
      · have q2 : ¬ isP e x y := fun q => by unfold isP at *; omega
        rw [if_neg hp, many, if_neg q2]
        by_cases h1e : e.f2 = 1
        · rw [if_pos h1e]; simp
        · rw [if_neg h1e, many, if_neg (fun q => hp ⟨q.1.symm, q.2.symm⟩)]; simp
    · rw [if_neg he] at hm ⊢
      by_cases hk : klt e (pr f t)
      · rw [if_pos hk]
        simp only [many]
        by_cases hp : isP e x y
        · have : ¬ (x = f ∧ y = t) := fun q => he (by unfold isP at *; omega)
          rw [if_pos hp, if_pos hp, if_neg this]; simp
        · rw [if_neg hp, if_neg hp, ih h3 hm]
      · exfalso
        obtain ⟨d, hd, hdp, _⟩ := many_mem hm
        have := h2 d hd
        have := klt_tri e f t
        unfold klt isP pr at *
        simp only at *
        omega
theorem dropL_ok (l : List S33) (h : Ok l) (f t : Int) : Ok (dropL l f t) := by
  induction l with
  | nil => exact Ok.nil
  | cons e l ih =>
    obtain ⟨h1, h2, h3⟩ := h.tail
    rw [dropL]
    by_cases he : isP e f t
    · rw [if_pos he]
      split
      · exact h3
      · refine Ok.cons ?_ (fun x hx => ?_) h3
        · unfold okE isP at *; simp only; omega
        · have := h2 x hx
          unfold klt isP at *
          simp only
          omega
    · rw [if_neg he]
      by_cases hk : klt e (pr f t)
      · rw [if_pos hk]
        refine Ok.cons h1 (fun x hx => ?_) (ih h3)
        rcases mem_dropL hx with hx | ⟨hx, _⟩
        · exact h2 x hx
        · unfold klt isP pr at *
          simp only at *
          omega
      · rw [if_neg hk]; exact h
theorem dropL_addL (l : List S33) (h : Ok l) (f t : Int) (hf : -1 ≤ f) (ht : 0 ≤ t) (hm : many l f t < most) : dropL (addL l f t) f t = l := by
  have ha := addL_ok l h f t hf ht hm
  refine ext (dropL_ok _ ha f t) h fun x y => ?_
  have := many_range h f t
  rw [many_dropL _ ha, many_addL l h]
  · omega
  · rw [many_addL l h, if_pos ⟨rfl, rfl⟩]; omega

/-! the place of a pair -/
def idx : List S33 → Int → Int → Nat
  | [], _, _ => 0
  | e :: r, f, t => if klt e (pr f t) then idx r f t + 1 else 0
theorem idx_le (l : List S33) (f t : Int) : idx l f t ≤ l.length := by
  induction l with
  | nil => simp [idx]
  | cons e l ih => rw [idx]; split <;> simp <;> omega
theorem idx_lt {l : List S33} (f t : Int) {k : Nat} (hk : k < idx l f t) (h : k < l.length) : klt l[k] (pr f t) := by
  induction l generalizing k with
  | nil => simp at h
  | cons e l ih =>
    rw [idx] at hk
    split at hk
    · rename_i he
      cases k with
      | zero => exact he
      | succ k => exact ih (by omega) (by simpa using h)
    · omega
theorem idx_ge {l : List S33} (hs : l.Pairwise klt) (f t : Int) {k : Nat} (hk : idx l f t ≤ k) (h : k < l.length) : ¬ klt l[k] (pr f t) := by
  induction l generalizing k with
  | nil => simp at h
  | cons e l ih =>
    obtain ⟨h1, h2⟩ := List.pairwise_cons.1 hs
    rw [idx] at hk
    split at hk
    · cases k with
      | zero => omega
      | succ k => exact ih h2 (by omega) (by simpa using h)
    · rename_i he
      cases k with
      | zero => exact he
      | succ k =>
        intro q
        simp only [List.length_cons] at h
        exact he (klt_trans (h1 _ (List.getElem_mem (by omega : k < l.length))) q)
def there (l : List S33) (f t : Int) : Bool := decide (∃ e, l[idx l f t]? = some e ∧ isP e f t)
end Go.Proofs.Ytbkogefcjcokhaa.Nm
