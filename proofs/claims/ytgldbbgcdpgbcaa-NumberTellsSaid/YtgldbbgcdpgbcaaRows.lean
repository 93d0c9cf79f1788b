/-
  No cell of these rows narrows 'for every input' (looked for: loops, veiled, ifaces, maps, wideKeys, modest, calm, conditions, laid).
  DERIVED. THE GIVEN ROWS OF THIS SEAT. 6 by the template 'for every input the law returns true; each argument reads behind the call as it read before'; 0 by the template 'total and deterministic' (their statements: YtgldbbgcdpgbcaaTotals.lean).
  GIVEN WITH THE SEED: the statements are not yours to turn. If you find one false, say at which input.
  Laid BY PROGRAM, IN A SANDBOX (cutbox-rows.mjs): the forced cells as the released guide's own fill.sh prints them over the translation 84319e3f0ca16b71… (all of the seat's roots in one cut). By AI agents, Wed Nov 11 2026. No macro, syntax, notation, axiom, sorry.
-/
import Derived.Test.YtgldbbgcdpgbcaaChecked
import GoSem.Claim
import GoSem.ClaimJoined
import GoSem.ClaimMapViews
import Derived.JoinedTies
import Derived.KernelRfl
namespace Go.Proofs.Ytgldbbgcdpgbcaa
/- THE CELL 'sum', in the pinned program and in every row, IS THE sha256 OF THE DUMP (.gsa) THAT YtgldbbgcdpgbcaaProg.lean LOADS. Nothing in Lean hashes anything: it is a label: what it is worth is what the hold of that sum in a sandbox is worth. -/
noncomputable def Try.pinned : Pinned := { name := "ytgldbbgcdpgbcaa", sum := "84319e3f0ca16b7101724118b853679c33c766bf902c0c895a574a9bafdad66d", checked := Try.checked }
namespace Rows
def none {H : Type} : Left H := { results := [], args := [] }

/-- 'graftwoodlaw02.NumberOrder': WHATEVER THE INPUT: true; the input reads as it did. -/
def numberOrderSpec : ChangeSpec := { name := "numberOrder", fn := fun _ => fun
  | [d1, d2, d3] => { results := [.lit (.bool true)], args := [d1, d2, d3] }
  | _ => none }
def numberOrderRow : OpenClaim := { program := "ytgldbbgcdpgbcaa", sum := "84319e3f0ca16b7101724118b853679c33c766bf902c0c895a574a9bafdad66d", func := "graftwood/graftwoodlaw02.NumberOrder", spec := "numberOrder", apart := false }
def NumberOrderSaid : Prop := numberOrderRow.holds Try.pinned (OpenSpec.ofChange numberOrderSpec)

/-- ITS FALSE NEIGHBOUR: 'it returns false'. Refute it at one input. -/
def numberOrderWrong : ChangeSpec := { name := "numberOrder", fn := fun _ => fun
  | [d1, d2, d3] => { results := [.lit (.bool false)], args := [d1, d2, d3] }
  | _ => none }
def NumberOrderWrongFalsely : Prop := numberOrderRow.holds Try.pinned (OpenSpec.ofChange numberOrderWrong)

/-- 'graftwoodlaw02.NumberForms': WHATEVER THE INPUT: true; the input reads as it did. -/
def numberFormsSpec : ChangeSpec := { name := "numberForms", fn := fun _ => fun
  | [d1, d2, d3] => { results := [.lit (.bool true)], args := [d1, d2, d3] }
  | _ => none }
def numberFormsRow : OpenClaim := { program := "ytgldbbgcdpgbcaa", sum := "84319e3f0ca16b7101724118b853679c33c766bf902c0c895a574a9bafdad66d", func := "graftwood/graftwoodlaw02.NumberForms", spec := "numberForms", apart := false }
def NumberFormsSaid : Prop := numberFormsRow.holds Try.pinned (OpenSpec.ofChange numberFormsSpec)

/-- ITS FALSE NEIGHBOUR: 'it returns false'. Refute it at one input. -/
def numberFormsWrong : ChangeSpec := { name := "numberForms", fn := fun _ => fun
  | [d1, d2, d3] => { results := [.lit (.bool false)], args := [d1, d2, d3] }
  | _ => none }
def NumberFormsWrongFalsely : Prop := numberFormsRow.holds Try.pinned (OpenSpec.ofChange numberFormsWrong)

/-- 'graftwoodlaw02.NumberLong': WHATEVER THE INPUT: true; the input reads as it did. -/
def numberLongSpec : ChangeSpec := { name := "numberLong", fn := fun _ => fun
  | [d1, d2] => { results := [.lit (.bool true)], args := [d1, d2] }
  | _ => none }
def numberLongRow : OpenClaim := { program := "ytgldbbgcdpgbcaa", sum := "84319e3f0ca16b7101724118b853679c33c766bf902c0c895a574a9bafdad66d", func := "graftwood/graftwoodlaw02.NumberLong", spec := "numberLong", apart := false }
def NumberLongSaid : Prop := numberLongRow.holds Try.pinned (OpenSpec.ofChange numberLongSpec)

/-- ITS FALSE NEIGHBOUR: 'it returns false'. Refute it at one input. -/
def numberLongWrong : ChangeSpec := { name := "numberLong", fn := fun _ => fun
  | [d1, d2] => { results := [.lit (.bool false)], args := [d1, d2] }
  | _ => none }
def NumberLongWrongFalsely : Prop := numberLongRow.holds Try.pinned (OpenSpec.ofChange numberLongWrong)

/-- 'graftwoodlaw02.NumberSteps': WHATEVER THE INPUT: true; the input reads as it did. -/
def numberStepsSpec : ChangeSpec := { name := "numberSteps", fn := fun _ => fun
  | [d1, d2] => { results := [.lit (.bool true)], args := [d1, d2] }
  | _ => none }
def numberStepsRow : OpenClaim := { program := "ytgldbbgcdpgbcaa", sum := "84319e3f0ca16b7101724118b853679c33c766bf902c0c895a574a9bafdad66d", func := "graftwood/graftwoodlaw02.NumberSteps", spec := "numberSteps", apart := false }
def NumberStepsSaid : Prop := numberStepsRow.holds Try.pinned (OpenSpec.ofChange numberStepsSpec)

/-- ITS FALSE NEIGHBOUR: 'it returns false'. Refute it at one input. -/
def numberStepsWrong : ChangeSpec := { name := "numberSteps", fn := fun _ => fun
  | [d1, d2] => { results := [.lit (.bool false)], args := [d1, d2] }
  | _ => none }
def NumberStepsWrongFalsely : Prop := numberStepsRow.holds Try.pinned (OpenSpec.ofChange numberStepsWrong)

/-- 'graftwoodlaw02.NumberTells': WHATEVER THE INPUT: true; the input reads as it did. -/
def numberTellsSpec : ChangeSpec := { name := "numberTells", fn := fun _ => fun
  | [d1, d2, d3] => { results := [.lit (.bool true)], args := [d1, d2, d3] }
  | _ => none }
def numberTellsRow : OpenClaim := { program := "ytgldbbgcdpgbcaa", sum := "84319e3f0ca16b7101724118b853679c33c766bf902c0c895a574a9bafdad66d", func := "graftwood/graftwoodlaw02.NumberTells", spec := "numberTells", inPlace := ["math/bits.Add64"], recurses := true, apart := false }
def NumberTellsSaid : Prop := numberTellsRow.holds Try.pinned (OpenSpec.ofChange numberTellsSpec)

/-- ITS FALSE NEIGHBOUR: 'it returns false'. Refute it at one input. -/
def numberTellsWrong : ChangeSpec := { name := "numberTells", fn := fun _ => fun
  | [d1, d2, d3] => { results := [.lit (.bool false)], args := [d1, d2, d3] }
  | _ => none }
def NumberTellsWrongFalsely : Prop := numberTellsRow.holds Try.pinned (OpenSpec.ofChange numberTellsWrong)

/-- 'graftwoodlaw02.NumberBack': WHATEVER THE INPUT: true; the input reads as it did. -/
def numberBackSpec : ChangeSpec := { name := "numberBack", fn := fun _ => fun
  | [d1, d2] => { results := [.lit (.bool true)], args := [d1, d2] }
  | _ => none }
def numberBackRow : OpenClaim := { program := "ytgldbbgcdpgbcaa", sum := "84319e3f0ca16b7101724118b853679c33c766bf902c0c895a574a9bafdad66d", func := "graftwood/graftwoodlaw02.NumberBack", spec := "numberBack", inPlace := ["math/bits.Add64"], apart := false }
def NumberBackSaid : Prop := numberBackRow.holds Try.pinned (OpenSpec.ofChange numberBackSpec)

/-- ITS FALSE NEIGHBOUR: 'it returns false'. Refute it at one input. -/
def numberBackWrong : ChangeSpec := { name := "numberBack", fn := fun _ => fun
  | [d1, d2] => { results := [.lit (.bool false)], args := [d1, d2] }
  | _ => none }
def NumberBackWrongFalsely : Prop := numberBackRow.holds Try.pinned (OpenSpec.ofChange numberBackWrong)

/- THE SECOND FORM. 'bulk': how many values and letters a reading holds, each counted each time it is reached (what is shared counts as often as it is met; a slice's spare places count too). A statement '..UptoSaid' is the law's where the arguments, and the package variables that the reading takes, are together of bulk at most 1048576: NARROWER than '..Said'. Prove '..Said' where nothing that the law and all that it calls make is longer than what came in: it says more and counts as full. Else prove '..UptoSaid'. A law counts once. -/
mutual
def uptoBulk {H : Type} : DataW H → Nat
  | .lit (.string bytes) => bytes.length + 1
  | .lit _ => 1
  | .nil => 1
  | .ptr d => uptoBulk d + 1
  | .slice elems spare => uptoBulkAll elems + uptoBulkAll spare + 1
  | .agg parts => uptoBulkAll parts + 1
  | .iface _ d => uptoBulk d + 1
  | .map entries => uptoBulkEntries entries + 1
  | .held _ => 1
def uptoBulkAll {H : Type} : List (DataW H) → Nat
  | [] => 0
  | d :: r => uptoBulk d + uptoBulkAll r
def uptoBulkEntries {H : Type} : List (Lit × DataW H) → Nat
  | [] => 0
  | x :: r => uptoBulkEntry x + uptoBulkEntries r
def uptoBulkEntry {H : Type} : Lit × DataW H → Nat
  | (.string bytes, d) => bytes.length + uptoBulk d + 1
  | (_, d) => uptoBulk d + 1
 end
def uptoSmall : (H : Type) → List (DataW H) → Bool := fun _ ds => decide (uptoBulkAll ds ≤ 1048576)
def OpenSpec.upto (s : _root_.Go.ChangeSpec) : _root_.Go.OpenSpec := { _root_.Go.OpenSpec.ofChange s with cond := some uptoSmall }

/-- 'graftwoodlaw02.NumberOrder', WHERE WHAT IT READS IS OF BULK AT MOST 1048576: true; the input reads as it did. -/
def numberOrderUptoRow : OpenClaim := { program := "ytgldbbgcdpgbcaa", sum := "84319e3f0ca16b7101724118b853679c33c766bf902c0c895a574a9bafdad66d", func := "graftwood/graftwoodlaw02.NumberOrder", spec := "numberOrder", apart := false, narrowed := true }
def NumberOrderUptoSaid : Prop := numberOrderUptoRow.holds Try.pinned (OpenSpec.upto numberOrderSpec)

/-- 'graftwoodlaw02.NumberForms', WHERE WHAT IT READS IS OF BULK AT MOST 1048576: true; the input reads as it did. -/
def numberFormsUptoRow : OpenClaim := { program := "ytgldbbgcdpgbcaa", sum := "84319e3f0ca16b7101724118b853679c33c766bf902c0c895a574a9bafdad66d", func := "graftwood/graftwoodlaw02.NumberForms", spec := "numberForms", apart := false, narrowed := true }
def NumberFormsUptoSaid : Prop := numberFormsUptoRow.holds Try.pinned (OpenSpec.upto numberFormsSpec)

/-- 'graftwoodlaw02.NumberLong', WHERE WHAT IT READS IS OF BULK AT MOST 1048576: true; the input reads as it did. -/
def numberLongUptoRow : OpenClaim := { program := "ytgldbbgcdpgbcaa", sum := "84319e3f0ca16b7101724118b853679c33c766bf902c0c895a574a9bafdad66d", func := "graftwood/graftwoodlaw02.NumberLong", spec := "numberLong", apart := false, narrowed := true }
def NumberLongUptoSaid : Prop := numberLongUptoRow.holds Try.pinned (OpenSpec.upto numberLongSpec)

/-- 'graftwoodlaw02.NumberSteps', WHERE WHAT IT READS IS OF BULK AT MOST 1048576: true; the input reads as it did. -/
def numberStepsUptoRow : OpenClaim := { program := "ytgldbbgcdpgbcaa", sum := "84319e3f0ca16b7101724118b853679c33c766bf902c0c895a574a9bafdad66d", func := "graftwood/graftwoodlaw02.NumberSteps", spec := "numberSteps", apart := false, narrowed := true }
def NumberStepsUptoSaid : Prop := numberStepsUptoRow.holds Try.pinned (OpenSpec.upto numberStepsSpec)

/-- 'graftwoodlaw02.NumberTells', WHERE WHAT IT READS IS OF BULK AT MOST 1048576: true; the input reads as it did. -/
def numberTellsUptoRow : OpenClaim := { program := "ytgldbbgcdpgbcaa", sum := "84319e3f0ca16b7101724118b853679c33c766bf902c0c895a574a9bafdad66d", func := "graftwood/graftwoodlaw02.NumberTells", spec := "numberTells", inPlace := ["math/bits.Add64"], recurses := true, apart := false, narrowed := true }
def NumberTellsUptoSaid : Prop := numberTellsUptoRow.holds Try.pinned (OpenSpec.upto numberTellsSpec)

/-- 'graftwoodlaw02.NumberBack', WHERE WHAT IT READS IS OF BULK AT MOST 1048576: true; the input reads as it did. -/
def numberBackUptoRow : OpenClaim := { program := "ytgldbbgcdpgbcaa", sum := "84319e3f0ca16b7101724118b853679c33c766bf902c0c895a574a9bafdad66d", func := "graftwood/graftwoodlaw02.NumberBack", spec := "numberBack", inPlace := ["math/bits.Add64"], apart := false, narrowed := true }
def NumberBackUptoSaid : Prop := numberBackUptoRow.holds Try.pinned (OpenSpec.upto numberBackSpec)

end Rows
end Go.Proofs.Ytgldbbgcdpgbcaa
