/- The contract of number.Value, walked by hand, under the contracts of number.May and math/bits.Mul64. -/
import Derived.Test.YtgldbbgcdpgbcaaOct
import Derived.Laws.Externs
import Derived.Laws.BitsLemmas
set_option linter.unusedVariables false
set_option linter.unusedSimpArgs false
namespace Go.Proofs.Ytgldbbgcdpgbcaa.Oct
open Go.RowKit Go.Proofs.YtgldbbgcdpgbcaaW.PrintWords

def two64 : Int := 18446744073709551616
/-- The number of digits, most significant first, if it fits into 64 bits. -/
def valR : Int → List UInt8 → Option Int
  | n, [] => some n
  | n, c :: r => if n * 10 + ((c.toNat : Int) - 48) < two64 then valR (n * 10 + ((c.toNat : Int) - 48)) r else none
theorem add64_lo (x d : Int) (hx : 0 ≤ x) (hd : 0 ≤ d) (w : World) : (callFunc 26 #[.int .u64 x, .int .u64 d, .int .u64 0]).run Try.prog w = .ok (.value (.tuple #[.int .u64 ((x + d) % two64), .int .u64 ((x + d) / two64)])) w := by
  rw [run_callFunc_extern Try.func26 (by kernel_rfl) (by kernel_rfl) (by kernel_rfl) (e := add64Entry) (by kernel_rfl), run_add64 x d 0 hx hd (by omega) (by omega)]
  simp only [Result.andThen, Int.add_zero]
  rfl

/-- The number that Value tells, and its error's. -/
def valV (b : Bool) (l : List UInt8) : Int := if b then (valR 0 l).getD 0 else 0
def valE (b : Bool) (l : List UInt8) : Int := if b then (if (valR 0 l).isSome then 0 else 4) else 1
theorem valV_some {l : List UInt8} {v : Int} (h : valR 0 l = some v) : valV true l = v ∧ valE true l = 0 := by simp [valV, valE, h]
theorem valV_none {l : List UInt8} (h : valR 0 l = none) : valV true l = 0 ∧ valE true l = 4 := by simp [valV, valE, h]
theorem fits {v d : Int} (hv : 0 ≤ v) (hd0 : 0 ≤ d) (hd1 : d ≤ 9) (h : v * 10 + d < two64) :
    v * 10 / two64 = 0 ∧ v * 10 % two64 = v * 10 ∧ (v * 10 + d) / two64 = 0 ∧ (v * 10 + d) % two64 = v * 10 + d := by unfold two64 at *; omega
theorem over {v d : Int} (hv : 0 ≤ v) (hd0 : 0 ≤ d) (hd1 : d ≤ 9) (h : ¬ v * 10 + d < two64) :
    0 < v * 10 / two64 ∨ (v * 10 / two64 = 0 ∧ 0 < (v * 10 % two64 + d) / two64) := by unfold two64 at *; omega
theorem lo_pos (v : Int) : 0 ≤ v * 10 % two64 := by unfold two64; omega

theorem _root_.Go.Proofs.YtgldbbgcdpgbcaaW.PrintWords.Drawn0.below' {w w1 w2 : World} (h : Drawn0 w1 w2) (hb : Below w.heap.size w w1) : Below w.heap.size w w2 := by
  obtain ⟨n, rfl⟩ := h
  exact pw_below_drewN hb n
set_option maxHeartbeats 4000000 in
set_option maxRecDepth 100000 in
theorem value_any (s : ByteArray) (b : Bool) (w : World) (hs : s.size ≤ 140737488351232)
    (hm : ∀ w, Calls Try.prog 11 #[.string s] w fun e w' => e = .returned (.bool b) ∧ Below w.heap.size w w')
    (hd : b = true → ∀ c ∈ s.data.toList, 48 ≤ c.toNat ∧ c.toNat ≤ 57)
    (hmul : ∀ n w, 0 ≤ n → n < two64 → Calls Try.prog 25 #[.int .u64 n, .int .u64 10] w fun e w' => e = .returned (.tuple #[.int .u64 (n * 10 / two64), .int .u64 (n * 10 % two64)]) ∧ Drawn0 w w') :
    Calls Try.prog 15 #[.string s] w fun e w' => e = .returned (.tuple #[.int .u64 (valV b s.data.toList), .int .i64 (valE b s.data.toList)]) ∧ Below w.heap.size w w' := by
  have HM := Aside0.mk hm
  have HMUL := Aside0.mk hmul
  have HD := Aside0.mk hd
  clear hm hmul hd
  go_enter Try.func15, Try.ntmps15
  go_wp2_with fail
  refine (HM.out _).mono ?_
  rintro e w1 ⟨rfl, hb⟩
  have HB := Lib.hid hb
  clear hb HM
  cases b with
  | false =>
    go_wp2
    go_ret2
    exact ⟨by simp [valV, valE], HB.out⟩
  | true =>
    go_wp2_with fail
    go_loopw [4, 15] (fun n i wr => ∃ (k : Nat) (v : Int), k ≤ s.size ∧ i = .int .i64 k ∧ n = .int .u64 v ∧ Hid (0 ≤ v ∧ v < two64) ∧ Hid (valR 0 s.data.toList = valR v (s.data.toList.drop k)) ∧ Hid (Below w.heap.size w wr)) (fun _ i _ => s.size - (intOf i).toNat)
    case atStart => exact ⟨0, 0, by omega, rfl, rfl, ⟨by omega, by unfold two64; omega⟩, rfl, HB⟩
    case round =>
      obtain ⟨k, v, hk, rfl, rfl, hv, hR, hBl⟩ := hrel
      by_cases hlt : k < s.size
      · have hc := HD.out trivial s[k] (Array.mem_toList_iff.2 (Array.getElem_mem (xs := s.data) hlt))
        obtain ⟨hc0, hc1⟩ := hc
        have hdr : Hid (s.data.toList.drop k = s[k] :: s.data.toList.drop (k + 1)) := by
          rw [Hid, List.drop_eq_getElem_cons (by simpa using hlt)]; rfl
        obtain ⟨d, hd⟩ : ∃ d : Int, d = (s[k].toNat : Int) - 48 := ⟨_, rfl⟩
        have hd0 : 0 ≤ d := by omega
        have hd1 : d ≤ 9 := by omega
        have hd' : Hid ((s[k].toNat : Int) - 48 = d) := hd.symm
        have hMul := Aside0.mk (fun w => HMUL.out v w hv.out.1 hv.out.2)
        have hAdd := fun w => add64_lo (v * 10 % two64) d (lo_pos v) hd0 w
        by_cases hf : v * 10 + d < two64
        · obtain ⟨f1, f2, f3, f4⟩ := fits hv.out.1 hd0 hd1 hf
          rw [f1, f2] at hMul
          rw [f2, f3, f4] at hAdd
          have HA := Lib.hid hAdd
          have hv2 : Hid (0 ≤ v * 10 + d ∧ v * 10 + d < two64) := ⟨by have := hv.out.1; omega, hf⟩
          have hR2 : Hid (valR 0 s.data.toList = valR (v * 10 + d) (s.data.toList.drop (k + 1))) := by
            rw [Hid, hR.out, hdr.out, valR, hd'.out, if_pos hf]
          clear f1 f2 f3 f4 hAdd hf hd hR hv
          go_wp2_with fail
          refine (hMul.out _).mono ?_
          rintro e w2 ⟨rfl, hdw⟩
          have HDW := Lib.hid hdw
          clear hdw
          have hbl2 := Lib.hid (HDW.out.below' hBl.out)
          have hd2 := hd'.out
          have hA2 := HA.out
          clear HA HDW
          go_wp2
          go_roundw
          case rel => exact ⟨k + 1, v * 10 + d, by omega, by go_num, rfl, hv2, hR2, hbl2⟩
          case measure => simp [intOf]; omega
        · have hR2 : Hid (valR 0 s.data.toList = none) := by
            rw [Hid, hR.out, hdr.out, valR, hd'.out, if_neg hf]
          have hres := Lib.hid (valV_none hR2.out)
          rcases over hv.out.1 hd0 hd1 hf with h1 | ⟨h1, h2⟩
          · have h3 : 0 ≤ (v * 10 % two64 + d) / two64 := by have := lo_pos v; unfold two64 at *; omega
            have hb1 : v * 10 / two64 < two64 := by have := hv.out.2; unfold two64 at *; omega
            generalize v * 10 % two64 = lo at *
            generalize (lo + d) / two64 = hi at *
            generalize (lo + d) % two64 = lo2 at *
            generalize v * 10 / two64 = hh at *
            have HA := Lib.hid hAdd
            clear hAdd hf hd hR hv
            go_wp2_with fail
            refine (hMul.out _).mono ?_
            rintro e w2 ⟨rfl, hdw⟩
            have hbl2 := Lib.hid (hdw.below' hBl.out)
            clear hdw
            have hd2 := hd'.out
            have hA2 := HA.out
            clear HA
            go_wp2
            go_ret2
            exact ⟨by rw [hres.out.1, hres.out.2]; rfl, hbl2.out⟩
          · generalize hlo : v * 10 % two64 = lo at *
            generalize hhi : (lo + d) / two64 = hi at *
            generalize hl2 : (lo + d) % two64 = lo2 at *
            rw [h1] at hMul
            have HA := Lib.hid hAdd
            clear hAdd hf hd hR hv h1 hlo hhi hl2
            go_wp2_with fail
            refine (hMul.out _).mono ?_
            rintro e w2 ⟨rfl, hdw⟩
            have hbl2 := Lib.hid (hdw.below' hBl.out)
            clear hdw
            have hd2 := hd'.out
            have hA2 := HA.out
            clear HA
            go_wp2
            go_ret2
            exact ⟨by rw [hres.out.1, hres.out.2]; rfl, hbl2.out⟩
      · have hk' : s.data.toList.length ≤ k := by simp; omega
        have hres := Lib.hid (valV_some (l := s.data.toList) (v := v) (by rw [hR.out, List.drop_of_length_le hk', valR]))
        clear hR hk'
        go_wp2
        go_ret2
        exact ⟨by rw [hres.out.1, hres.out.2]; rfl, hBl.out⟩
theorem mask32 (n : Int) (h0 : 0 ≤ n) (h1 : n < two64) : Go.bits .and .u64 n 4294967295 = n % 4294967296 :=
  bits_mask .u64 64 (by decide) (fun n h0 h1 => by rw [wrap_u64]; omega) 32 (by decide) n h0 h1
theorem mul10_hi (n : Int) (h0 : 0 ≤ n) (h1 : n < two64) :
    IntKind.u64.wrap ((IntKind.u64.wrap ((IntKind.u64.wrap ((n / 4294967296) * 0)) + ((IntKind.u64.wrap ((IntKind.u64.wrap ((n / 4294967296) * 10)) + ((IntKind.u64.wrap ((n % 4294967296) * 10)) / 4294967296))) / 4294967296))) + ((IntKind.u64.wrap ((Go.bits .and .u64 (IntKind.u64.wrap ((IntKind.u64.wrap ((n / 4294967296) * 10)) + ((IntKind.u64.wrap ((n % 4294967296) * 10)) / 4294967296))) 4294967295) + (IntKind.u64.wrap ((n % 4294967296) * 0)))) / 4294967296)) = n * 10 / two64 := by
  have hd : n = 4294967296 * (n / 4294967296) + n % 4294967296 := (Int.mul_ediv_add_emod n 4294967296).symm
  have ha0 : 0 ≤ n / 4294967296 := by omega
  have ha1 : n / 4294967296 < 4294967296 := by unfold two64 at h1; omega
  have hb0 : 0 ≤ n % 4294967296 := by omega
  have hb1 : n % 4294967296 < 4294967296 := by omega
  generalize n / 4294967296 = a at *
  generalize n % 4294967296 = b at *
  subst hd
  have e1 : IntKind.u64.wrap (a * 10) = a * 10 := by rw [wrap_u64]; omega
  have e2 : IntKind.u64.wrap (b * 10) = b * 10 := by rw [wrap_u64]; omega
  have e3 : IntKind.u64.wrap (a * 10 + b * 10 / 4294967296) = a * 10 + b * 10 / 4294967296 := by rw [wrap_u64]; omega
  have e4 : IntKind.u64.wrap (a * 0) = 0 := by rw [Int.mul_zero, wrap_u64]; rfl
  have e5 : IntKind.u64.wrap (b * 0) = 0 := by rw [Int.mul_zero, wrap_u64]; rfl
  rw [e1, e2, e3, e4, e5, mask32 _ (by omega) (by unfold two64; omega)]
  have e6 : IntKind.u64.wrap (0 + (a * 10 + b * 10 / 4294967296) / 4294967296) = (a * 10 + b * 10 / 4294967296) / 4294967296 := by rw [wrap_u64]; omega
  have e7 : IntKind.u64.wrap ((a * 10 + b * 10 / 4294967296) % 4294967296 + 0) = (a * 10 + b * 10 / 4294967296) % 4294967296 := by rw [wrap_u64]; omega
  rw [e6, e7, wrap_u64]
  unfold two64 at *
  have e8 : (4294967296 * a + b) * 10 / 18446744073709551616 = (a * 10 + b * 10 / 4294967296) / 4294967296 := by omega
  rw [e8]
  clear e1 e2 e3 e4 e5 e6 e7 e8
  have hk1 : a * 10 + b * 10 / 4294967296 < 18446744073709551616 := by omega
  have hk0 : 0 ≤ a * 10 + b * 10 / 4294967296 := by omega
  generalize a * 10 + b * 10 / 4294967296 = k at *
  omega
end Go.Proofs.Ytgldbbgcdpgbcaa.Oct
