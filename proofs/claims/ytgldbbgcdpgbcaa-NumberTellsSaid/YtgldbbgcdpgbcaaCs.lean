/- The contract of cmp.Compare of two strings, walked by hand. -/
import Derived.Test.YtgldbbgcdpgbcaaOct
import Derived.WalkLawsBesides
set_option linter.unusedVariables false
set_option linter.unusedSimpArgs false
namespace Go.Proofs.Ytgldbbgcdpgbcaa.Oct
open Go.RowKit Go.Proofs.YtgldbbgcdpgbcaaW.PrintWords
def cmpS (a b : List UInt8) : Int := if Op.bytesLess a b = true then -1 else if a = b then 0 else 1
set_option maxHeartbeats 1000000 in
theorem nan_any (a : ByteArray) (w : World) : Calls Try.prog 32 #[.string a] w fun e w' => e = .returned (.bool false) ∧ Drawn0 w w' := by
  go_enter Try.func32, Try.ntmps32
  go_wp2
  go_ret
  exact ⟨by simp, Drawn0.refl _⟩
set_option maxHeartbeats 1000000 in
theorem cmps_any (a b : ByteArray) (w : World) : Calls Try.prog 30 #[.string a, .string b] w fun e w' => e = .returned (.int .i64 (cmpS a.toList b.toList)) ∧ Drawn0 w w' := by
  by_cases h1 : Op.bytesLess a.toList b.toList = true
  · have hr := Lib.hid (show cmpS a.toList b.toList = -1 by rw [cmpS, if_pos h1])
    go_enter Try.func30, Try.ntmps30
    go_wp2_with fail
    refine (nan_any _ _).mono ?_
    rintro e w1 ⟨rfl, ⟨n1, rfl⟩⟩
    go_wp2_with fail
    refine (nan_any _ _).mono ?_
    rintro e w1 ⟨rfl, ⟨n2, rfl⟩⟩
    go_wp2
    go_ret
    exact ⟨by rw [hr.out]; rfl, by repeat (first | exact Drawn0.refl _ | apply Drawn0.step)⟩
  · have h1' : Op.bytesLess a.toList b.toList = false := by simpa using h1
    clear h1
    by_cases h2 : a.toList = b.toList
    · have hr := Lib.hid (show cmpS a.toList b.toList = 0 by rw [cmpS, if_neg (by rw [h1']; simp), if_pos h2])
      have h2' : (a.toList == b.toList) = true := by simpa using h2
      clear h2
      go_enter Try.func30, Try.ntmps30
      go_wp2_with fail
      refine (nan_any _ _).mono ?_
      rintro e w1 ⟨rfl, ⟨n1, rfl⟩⟩
      go_wp2_with fail
      refine (nan_any _ _).mono ?_
      rintro e w1 ⟨rfl, ⟨n2, rfl⟩⟩
      go_wp2
      go_ret
      exact ⟨by rw [hr.out]; rfl, by repeat (first | exact Drawn0.refl _ | apply Drawn0.step)⟩
    · have hr := Lib.hid (show cmpS a.toList b.toList = 1 by rw [cmpS, if_neg (by rw [h1']; simp), if_neg h2])
      have h2' : (a.toList == b.toList) = false := by simpa using h2
      clear h2
      go_enter Try.func30, Try.ntmps30
      go_wp2_with fail
      refine (nan_any _ _).mono ?_
      rintro e w1 ⟨rfl, ⟨n1, rfl⟩⟩
      go_wp2_with fail
      refine (nan_any _ _).mono ?_
      rintro e w1 ⟨rfl, ⟨n2, rfl⟩⟩
      go_wp2
      go_ret
      exact ⟨by rw [hr.out]; rfl, by repeat (first | exact Drawn0.refl _ | apply Drawn0.step)⟩
end Go.Proofs.Ytgldbbgcdpgbcaa.Oct
