/-
  No cell of these rows narrows 'for every input' (looked for: loops, veiled, ifaces, maps, wideKeys, modest, calm, conditions, laid).
  DERIVED. THE GIVEN ROWS OF THIS SEAT. 3 by the template 'for every input the law returns true; each argument reads behind the call as it read before'; 0 by the template 'total and deterministic' (their statements: YtogghagoilhieaaTotals.lean).
  GIVEN WITH THE SEED: the statements are not yours to turn. If you find one false, say at which input.
  Laid BY PROGRAM, IN A SANDBOX (cutbox-rows.mjs): the forced cells as the released guide's own fill.sh prints them over the translation 6ec9afc237000a7c… (all of the seat's roots in one cut). By AI agents, Wed Nov 11 2026. No macro, syntax, notation, axiom, sorry.
-/
import Derived.Test.YtogghagoilhieaaChecked
import GoSem.Claim
import GoSem.ClaimJoined
import GoSem.ClaimMapViews
import Derived.JoinedTies
import Derived.KernelRfl
namespace Go.Proofs.Ytogghagoilhieaa
/- THE CELL 'sum', in the pinned program and in every row, IS THE sha256 OF THE DUMP (.gsa) THAT YtogghagoilhieaaProg.lean LOADS. Nothing in Lean hashes anything: it is a label: what it is worth is what the hold of that sum in a sandbox is worth. -/
noncomputable def Try.pinned : Pinned := { name := "ytogghagoilhieaa", sum := "6ec9afc237000a7c09a782f04f279090bc8275807575cd45de96692f620ce70b", checked := Try.checked }
namespace Rows
def none {H : Type} : Left H := { results := [], args := [] }

/-- 'affiantlaw13.EdwardsUnpack': WHATEVER THE INPUT: true; the input reads as it did. -/
def edwardsUnpackSpec : ChangeSpec := { name := "edwardsUnpack", fn := fun _ => fun
  | [d] => { results := [.lit (.bool true)], args := [d] }
  | _ => none }
def edwardsUnpackRow : OpenClaim := { program := "ytogghagoilhieaa", sum := "6ec9afc237000a7c09a782f04f279090bc8275807575cd45de96692f620ce70b", func := "affiant/affiantlaw13.EdwardsUnpack", spec := "edwardsUnpack", inPlace := ["math/bits.Sub64", "math/bits.Add64"], apart := false }
def EdwardsUnpackSaid : Prop := edwardsUnpackRow.holds Try.pinned (OpenSpec.ofChange edwardsUnpackSpec)

/-- ITS FALSE NEIGHBOUR: 'it returns false'. Refute it at one input. -/
def edwardsUnpackWrong : ChangeSpec := { name := "edwardsUnpack", fn := fun _ => fun
  | [d] => { results := [.lit (.bool false)], args := [d] }
  | _ => none }
def EdwardsUnpackWrongFalsely : Prop := edwardsUnpackRow.holds Try.pinned (OpenSpec.ofChange edwardsUnpackWrong)

/-- 'affiantlaw13.EdwardsBack': WHATEVER THE INPUT: true; the input reads as it did. -/
def edwardsBackSpec : ChangeSpec := { name := "edwardsBack", fn := fun _ => fun
  | [d1, d2] => { results := [.lit (.bool true)], args := [d1, d2] }
  | _ => none }
def edwardsBackRow : OpenClaim := { program := "ytogghagoilhieaa", sum := "6ec9afc237000a7c09a782f04f279090bc8275807575cd45de96692f620ce70b", func := "affiant/affiantlaw13.EdwardsBack", spec := "edwardsBack", inPlace := ["math/bits.Sub64", "math/bits.Add64"], apart := false }
def EdwardsBackSaid : Prop := edwardsBackRow.holds Try.pinned (OpenSpec.ofChange edwardsBackSpec)

/-- ITS FALSE NEIGHBOUR: 'it returns false'. Refute it at one input. -/
def edwardsBackWrong : ChangeSpec := { name := "edwardsBack", fn := fun _ => fun
  | [d1, d2] => { results := [.lit (.bool false)], args := [d1, d2] }
  | _ => none }
def EdwardsBackWrongFalsely : Prop := edwardsBackRow.holds Try.pinned (OpenSpec.ofChange edwardsBackWrong)

/-- 'affiantlaw13.EdwardsTimes': WHATEVER THE INPUT: true; the input reads as it did. -/
def edwardsTimesSpec : ChangeSpec := { name := "edwardsTimes", fn := fun _ => fun
  | [d1, d2, d3] => { results := [.lit (.bool true)], args := [d1, d2, d3] }
  | _ => none }
def edwardsTimesRow : OpenClaim := { program := "ytogghagoilhieaa", sum := "6ec9afc237000a7c09a782f04f279090bc8275807575cd45de96692f620ce70b", func := "affiant/affiantlaw13.EdwardsTimes", spec := "edwardsTimes", inPlace := ["math/bits.Add64", "math/bits.Sub64"], apart := false }
def EdwardsTimesSaid : Prop := edwardsTimesRow.holds Try.pinned (OpenSpec.ofChange edwardsTimesSpec)

/-- ITS FALSE NEIGHBOUR: 'it returns false'. Refute it at one input. -/
def edwardsTimesWrong : ChangeSpec := { name := "edwardsTimes", fn := fun _ => fun
  | [d1, d2, d3] => { results := [.lit (.bool false)], args := [d1, d2, d3] }
  | _ => none }
def EdwardsTimesWrongFalsely : Prop := edwardsTimesRow.holds Try.pinned (OpenSpec.ofChange edwardsTimesWrong)

/- THE SECOND FORM. 'bulk': how many values and letters a reading holds, each counted each time it is reached (what is shared counts as often as it is met; a slice's spare places count too). A statement '..UptoSaid' is the law's where the arguments, and the package variables that the reading takes, are together of bulk at most 1048576: NARROWER than '..Said'. Prove '..Said' where nothing that the law and all that it calls make is longer than what came in: it says more and counts as full. Else prove '..UptoSaid'. A law counts once. -/
mutual
def uptoBulk {H : Type} : DataW H → Nat
  | .lit (.string bytes) => bytes.length + 1
  | .lit _ => 1
  | .nil => 1
  | .ptr d => uptoBulk d + 1
  | .slice elems spare => uptoBulkAll elems + uptoBulkAll spare + 1
  | .agg parts => uptoBulkAll parts + 1
  | .iface _ d => uptoBulk d + 1
  | .map entries => uptoBulkEntries entries + 1
  | .held _ => 1
def uptoBulkAll {H : Type} : List (DataW H) → Nat
  | [] => 0
  | d :: r => uptoBulk d + uptoBulkAll r
def uptoBulkEntries {H : Type} : List (Lit × DataW H) → Nat
  | [] => 0
  | x :: r => uptoBulkEntry x + uptoBulkEntries r
def uptoBulkEntry {H : Type} : Lit × DataW H → Nat
  | (.string bytes, d) => bytes.length + uptoBulk d + 1
  | (_, d) => uptoBulk d + 1
 end
def uptoSmall : (H : Type) → List (DataW H) → Bool := fun _ ds => decide (uptoBulkAll ds ≤ 1048576)
def OpenSpec.upto (s : _root_.Go.ChangeSpec) : _root_.Go.OpenSpec := { _root_.Go.OpenSpec.ofChange s with cond := some uptoSmall }

/-- 'affiantlaw13.EdwardsUnpack', WHERE WHAT IT READS IS OF BULK AT MOST 1048576: true; the input reads as it did. -/
def edwardsUnpackUptoRow : OpenClaim := { program := "ytogghagoilhieaa", sum := "6ec9afc237000a7c09a782f04f279090bc8275807575cd45de96692f620ce70b", func := "affiant/affiantlaw13.EdwardsUnpack", spec := "edwardsUnpack", inPlace := ["math/bits.Sub64", "math/bits.Add64"], apart := false, narrowed := true }
def EdwardsUnpackUptoSaid : Prop := edwardsUnpackUptoRow.holds Try.pinned (OpenSpec.upto edwardsUnpackSpec)

/-- 'affiantlaw13.EdwardsBack', WHERE WHAT IT READS IS OF BULK AT MOST 1048576: true; the input reads as it did. -/
def edwardsBackUptoRow : OpenClaim := { program := "ytogghagoilhieaa", sum := "6ec9afc237000a7c09a782f04f279090bc8275807575cd45de96692f620ce70b", func := "affiant/affiantlaw13.EdwardsBack", spec := "edwardsBack", inPlace := ["math/bits.Sub64", "math/bits.Add64"], apart := false, narrowed := true }
def EdwardsBackUptoSaid : Prop := edwardsBackUptoRow.holds Try.pinned (OpenSpec.upto edwardsBackSpec)

/-- 'affiantlaw13.EdwardsTimes', WHERE WHAT IT READS IS OF BULK AT MOST 1048576: true; the input reads as it did. -/
def edwardsTimesUptoRow : OpenClaim := { program := "ytogghagoilhieaa", sum := "6ec9afc237000a7c09a782f04f279090bc8275807575cd45de96692f620ce70b", func := "affiant/affiantlaw13.EdwardsTimes", spec := "edwardsTimes", inPlace := ["math/bits.Add64", "math/bits.Sub64"], apart := false, narrowed := true }
def EdwardsTimesUptoSaid : Prop := edwardsTimesUptoRow.holds Try.pinned (OpenSpec.upto edwardsTimesSpec)

end Rows
end Go.Proofs.Ytogghagoilhieaa
