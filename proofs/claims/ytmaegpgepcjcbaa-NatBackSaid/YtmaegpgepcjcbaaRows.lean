/-
  No cell of these rows narrows 'for every input' (looked for: loops, veiled, ifaces, maps, wideKeys, modest, calm, conditions, laid).
  DERIVED. THE GIVEN ROWS OF THIS SEAT. 9 by the template 'for every input the law returns true; each argument reads behind the call as it read before'; 0 by the template 'total and deterministic' (their statements: YtmaegpgepcjcbaaTotals.lean).
  GIVEN WITH THE SEED: the statements are not yours to turn. If you find one false, say at which input.
  Laid BY PROGRAM, IN A SANDBOX (cutbox-rows.mjs): the forced cells as the released guide's own fill.sh prints them over the translation 4273b7e28ab41ba8… (all of the seat's roots in one cut). By AI agents, Wed Nov 11 2026. No macro, syntax, notation, axiom, sorry.
-/
import Derived.Test.YtmaegpgepcjcbaaChecked
import GoSem.Claim
import GoSem.ClaimJoined
import GoSem.ClaimMapViews
import Derived.JoinedTies
import Derived.KernelRfl
namespace Go.Proofs.Ytmaegpgepcjcbaa
/- THE CELL 'sum', in the pinned program and in every row, IS THE sha256 OF THE DUMP (.gsa) THAT YtmaegpgepcjcbaaProg.lean LOADS. Nothing in Lean hashes anything: it is a label: what it is worth is what the hold of that sum in a sandbox is worth. -/
noncomputable def Try.pinned : Pinned := { name := "ytmaegpgepcjcbaa", sum := "4273b7e28ab41ba85d37e4788e774d497654e992b3037e6e760a7e4e0a197fc1", checked := Try.checked }
namespace Rows
def none {H : Type} : Left H := { results := [], args := [] }

/-- 'affiantlaw04.NatSums': WHATEVER THE INPUT: true; the input reads as it did. -/
def natSumsSpec : ChangeSpec := { name := "natSums", fn := fun _ => fun
  | [d1, d2, d3] => { results := [.lit (.bool true)], args := [d1, d2, d3] }
  | _ => none }
def natSumsRow : OpenClaim := { program := "ytmaegpgepcjcbaa", sum := "4273b7e28ab41ba85d37e4788e774d497654e992b3037e6e760a7e4e0a197fc1", func := "affiant/affiantlaw04.NatSums", spec := "natSums", unfollowed := true, recurses := true, named := ["math/bits.overflowError"], apart := false }
def NatSumsSaid : Prop := natSumsRow.holds Try.pinned (OpenSpec.ofChange natSumsSpec)

/-- ITS FALSE NEIGHBOUR: 'it returns false'. Refute it at one input. -/
def natSumsWrong : ChangeSpec := { name := "natSums", fn := fun _ => fun
  | [d1, d2, d3] => { results := [.lit (.bool false)], args := [d1, d2, d3] }
  | _ => none }
def NatSumsWrongFalsely : Prop := natSumsRow.holds Try.pinned (OpenSpec.ofChange natSumsWrong)

/-- 'affiantlaw04.NatBytes': WHATEVER THE INPUT: true; the input reads as it did. -/
def natBytesSpec : ChangeSpec := { name := "natBytes", fn := fun _ => fun
  | [d1, d2, d3] => { results := [.lit (.bool true)], args := [d1, d2, d3] }
  | _ => none }
def natBytesRow : OpenClaim := { program := "ytmaegpgepcjcbaa", sum := "4273b7e28ab41ba85d37e4788e774d497654e992b3037e6e760a7e4e0a197fc1", func := "affiant/affiantlaw04.NatBytes", spec := "natBytes", unfollowed := true, recurses := true, named := ["math/bits.overflowError"], apart := false }
def NatBytesSaid : Prop := natBytesRow.holds Try.pinned (OpenSpec.ofChange natBytesSpec)

/-- ITS FALSE NEIGHBOUR: 'it returns false'. Refute it at one input. -/
def natBytesWrong : ChangeSpec := { name := "natBytes", fn := fun _ => fun
  | [d1, d2, d3] => { results := [.lit (.bool false)], args := [d1, d2, d3] }
  | _ => none }
def NatBytesWrongFalsely : Prop := natBytesRow.holds Try.pinned (OpenSpec.ofChange natBytesWrong)

/-- 'affiantlaw04.NatUndone': WHATEVER THE INPUT: true; the input reads as it did. -/
def natUndoneSpec : ChangeSpec := { name := "natUndone", fn := fun _ => fun
  | [d1, d2] => { results := [.lit (.bool true)], args := [d1, d2] }
  | _ => none }
def natUndoneRow : OpenClaim := { program := "ytmaegpgepcjcbaa", sum := "4273b7e28ab41ba85d37e4788e774d497654e992b3037e6e760a7e4e0a197fc1", func := "affiant/affiantlaw04.NatUndone", spec := "natUndone", unfollowed := true, recurses := true, named := ["math/bits.overflowError"], apart := false }
def NatUndoneSaid : Prop := natUndoneRow.holds Try.pinned (OpenSpec.ofChange natUndoneSpec)

/-- ITS FALSE NEIGHBOUR: 'it returns false'. Refute it at one input. -/
def natUndoneWrong : ChangeSpec := { name := "natUndone", fn := fun _ => fun
  | [d1, d2] => { results := [.lit (.bool false)], args := [d1, d2] }
  | _ => none }
def NatUndoneWrongFalsely : Prop := natUndoneRow.holds Try.pinned (OpenSpec.ofChange natUndoneWrong)

/-- 'affiantlaw04.NatBack': WHATEVER THE INPUT: true; the input reads as it did. -/
def natBackSpec : ChangeSpec := { name := "natBack", fn := fun _ => fun
  | [d1, d2] => { results := [.lit (.bool true)], args := [d1, d2] }
  | _ => none }
def natBackRow : OpenClaim := { program := "ytmaegpgepcjcbaa", sum := "4273b7e28ab41ba85d37e4788e774d497654e992b3037e6e760a7e4e0a197fc1", func := "affiant/affiantlaw04.NatBack", spec := "natBack", unfollowed := true, recurses := true, named := ["math/bits.overflowError"], apart := false }
def NatBackSaid : Prop := natBackRow.holds Try.pinned (OpenSpec.ofChange natBackSpec)

/-- ITS FALSE NEIGHBOUR: 'it returns false'. Refute it at one input. -/
def natBackWrong : ChangeSpec := { name := "natBack", fn := fun _ => fun
  | [d1, d2] => { results := [.lit (.bool false)], args := [d1, d2] }
  | _ => none }
def NatBackWrongFalsely : Prop := natBackRow.holds Try.pinned (OpenSpec.ofChange natBackWrong)

/-- 'affiantlaw05.ModexpMul': WHATEVER THE INPUT: true; the input reads as it did. -/
def modexpMulSpec : ChangeSpec := { name := "modexpMul", fn := fun _ => fun
  | [d1, d2, d3] => { results := [.lit (.bool true)], args := [d1, d2, d3] }
  | _ => none }
def modexpMulRow : OpenClaim := { program := "ytmaegpgepcjcbaa", sum := "4273b7e28ab41ba85d37e4788e774d497654e992b3037e6e760a7e4e0a197fc1", func := "affiant/affiantlaw05.ModexpMul", spec := "modexpMul", unfollowed := true, recurses := true, named := ["math/bits.overflowError"], apart := false }
def ModexpMulSaid : Prop := modexpMulRow.holds Try.pinned (OpenSpec.ofChange modexpMulSpec)

/-- ITS FALSE NEIGHBOUR: 'it returns false'. Refute it at one input. -/
def modexpMulWrong : ChangeSpec := { name := "modexpMul", fn := fun _ => fun
  | [d1, d2, d3] => { results := [.lit (.bool false)], args := [d1, d2, d3] }
  | _ => none }
def ModexpMulWrongFalsely : Prop := modexpMulRow.holds Try.pinned (OpenSpec.ofChange modexpMulWrong)

/-- 'affiantlaw05.ModexpExp': WHATEVER THE INPUT: true; the input reads as it did. -/
def modexpExpSpec : ChangeSpec := { name := "modexpExp", fn := fun _ => fun
  | [d1, d2, d3] => { results := [.lit (.bool true)], args := [d1, d2, d3] }
  | _ => none }
def modexpExpRow : OpenClaim := { program := "ytmaegpgepcjcbaa", sum := "4273b7e28ab41ba85d37e4788e774d497654e992b3037e6e760a7e4e0a197fc1", func := "affiant/affiantlaw05.ModexpExp", spec := "modexpExp", unfollowed := true, recurses := true, named := ["math/bits.overflowError"], apart := false }
def ModexpExpSaid : Prop := modexpExpRow.holds Try.pinned (OpenSpec.ofChange modexpExpSpec)

/-- ITS FALSE NEIGHBOUR: 'it returns false'. Refute it at one input. -/
def modexpExpWrong : ChangeSpec := { name := "modexpExp", fn := fun _ => fun
  | [d1, d2, d3] => { results := [.lit (.bool false)], args := [d1, d2, d3] }
  | _ => none }
def ModexpExpWrongFalsely : Prop := modexpExpRow.holds Try.pinned (OpenSpec.ofChange modexpExpWrong)

/-- 'affiantlaw05.ModexpInverse': WHATEVER THE INPUT: true; the input reads as it did. -/
def modexpInverseSpec : ChangeSpec := { name := "modexpInverse", fn := fun _ => fun
  | [d1, d2] => { results := [.lit (.bool true)], args := [d1, d2] }
  | _ => none }
def modexpInverseRow : OpenClaim := { program := "ytmaegpgepcjcbaa", sum := "4273b7e28ab41ba85d37e4788e774d497654e992b3037e6e760a7e4e0a197fc1", func := "affiant/affiantlaw05.ModexpInverse", spec := "modexpInverse", unfollowed := true, recurses := true, named := ["math/bits.overflowError"], apart := false }
def ModexpInverseSaid : Prop := modexpInverseRow.holds Try.pinned (OpenSpec.ofChange modexpInverseSpec)

/-- ITS FALSE NEIGHBOUR: 'it returns false'. Refute it at one input. -/
def modexpInverseWrong : ChangeSpec := { name := "modexpInverse", fn := fun _ => fun
  | [d1, d2] => { results := [.lit (.bool false)], args := [d1, d2] }
  | _ => none }
def ModexpInverseWrongFalsely : Prop := modexpInverseRow.holds Try.pinned (OpenSpec.ofChange modexpInverseWrong)

/-- 'affiantlaw05.ModexpPowers': WHATEVER THE INPUT: true; the input reads as it did. -/
def modexpPowersSpec : ChangeSpec := { name := "modexpPowers", fn := fun _ => fun
  | [d1, d2, d3] => { results := [.lit (.bool true)], args := [d1, d2, d3] }
  | _ => none }
def modexpPowersRow : OpenClaim := { program := "ytmaegpgepcjcbaa", sum := "4273b7e28ab41ba85d37e4788e774d497654e992b3037e6e760a7e4e0a197fc1", func := "affiant/affiantlaw05.ModexpPowers", spec := "modexpPowers", unfollowed := true, recurses := true, named := ["math/bits.overflowError"], apart := false }
def ModexpPowersSaid : Prop := modexpPowersRow.holds Try.pinned (OpenSpec.ofChange modexpPowersSpec)

/-- ITS FALSE NEIGHBOUR: 'it returns false'. Refute it at one input. -/
def modexpPowersWrong : ChangeSpec := { name := "modexpPowers", fn := fun _ => fun
  | [d1, d2, d3] => { results := [.lit (.bool false)], args := [d1, d2, d3] }
  | _ => none }
def ModexpPowersWrongFalsely : Prop := modexpPowersRow.holds Try.pinned (OpenSpec.ofChange modexpPowersWrong)

/-- 'affiantlaw05.ModexpGcd': WHATEVER THE INPUT: true; the input reads as it did. -/
def modexpGcdSpec : ChangeSpec := { name := "modexpGcd", fn := fun _ => fun
  | [d1, d2] => { results := [.lit (.bool true)], args := [d1, d2] }
  | _ => none }
def modexpGcdRow : OpenClaim := { program := "ytmaegpgepcjcbaa", sum := "4273b7e28ab41ba85d37e4788e774d497654e992b3037e6e760a7e4e0a197fc1", func := "affiant/affiantlaw05.ModexpGcd", spec := "modexpGcd", unfollowed := true, recurses := true, named := ["math/bits.overflowError"], apart := false }
def ModexpGcdSaid : Prop := modexpGcdRow.holds Try.pinned (OpenSpec.ofChange modexpGcdSpec)

/-- ITS FALSE NEIGHBOUR: 'it returns false'. Refute it at one input. -/
def modexpGcdWrong : ChangeSpec := { name := "modexpGcd", fn := fun _ => fun
  | [d1, d2] => { results := [.lit (.bool false)], args := [d1, d2] }
  | _ => none }
def ModexpGcdWrongFalsely : Prop := modexpGcdRow.holds Try.pinned (OpenSpec.ofChange modexpGcdWrong)

/- THE SECOND FORM. 'bulk': how many values and letters a reading holds, each counted each time it is reached (what is shared counts as often as it is met; a slice's spare places count too). A statement '..UptoSaid' is the law's where the arguments, and the package variables that the reading takes, are together of bulk at most 1048576: NARROWER than '..Said'. Prove '..Said' where nothing that the law and all that it calls make is longer than what came in: it says more and counts as full. Else prove '..UptoSaid'. A law counts once. -/
mutual
def uptoBulk {H : Type} : DataW H → Nat
  | .lit (.string bytes) => bytes.length + 1
  | .lit _ => 1
  | .nil => 1
  | .ptr d => uptoBulk d + 1
  | .slice elems spare => uptoBulkAll elems + uptoBulkAll spare + 1
  | .agg parts => uptoBulkAll parts + 1
  | .iface _ d => uptoBulk d + 1
  | .map entries => uptoBulkEntries entries + 1
  | .held _ => 1
def uptoBulkAll {H : Type} : List (DataW H) → Nat
  | [] => 0
  | d :: r => uptoBulk d + uptoBulkAll r
def uptoBulkEntries {H : Type} : List (Lit × DataW H) → Nat
  | [] => 0
  | x :: r => uptoBulkEntry x + uptoBulkEntries r
def uptoBulkEntry {H : Type} : Lit × DataW H → Nat
  | (.string bytes, d) => bytes.length + uptoBulk d + 1
  | (_, d) => uptoBulk d + 1
 end
def uptoSmall : (H : Type) → List (DataW H) → Bool := fun _ ds => decide (uptoBulkAll ds ≤ 1048576)
def OpenSpec.upto (s : _root_.Go.ChangeSpec) : _root_.Go.OpenSpec := { _root_.Go.OpenSpec.ofChange s with cond := some uptoSmall }

/-- 'affiantlaw04.NatSums', WHERE WHAT IT READS IS OF BULK AT MOST 1048576: true; the input reads as it did. -/
def natSumsUptoRow : OpenClaim := { program := "ytmaegpgepcjcbaa", sum := "4273b7e28ab41ba85d37e4788e774d497654e992b3037e6e760a7e4e0a197fc1", func := "affiant/affiantlaw04.NatSums", spec := "natSums", unfollowed := true, recurses := true, named := ["math/bits.overflowError"], apart := false, narrowed := true }
def NatSumsUptoSaid : Prop := natSumsUptoRow.holds Try.pinned (OpenSpec.upto natSumsSpec)

/-- 'affiantlaw04.NatBytes', WHERE WHAT IT READS IS OF BULK AT MOST 1048576: true; the input reads as it did. -/
def natBytesUptoRow : OpenClaim := { program := "ytmaegpgepcjcbaa", sum := "4273b7e28ab41ba85d37e4788e774d497654e992b3037e6e760a7e4e0a197fc1", func := "affiant/affiantlaw04.NatBytes", spec := "natBytes", unfollowed := true, recurses := true, named := ["math/bits.overflowError"], apart := false, narrowed := true }
def NatBytesUptoSaid : Prop := natBytesUptoRow.holds Try.pinned (OpenSpec.upto natBytesSpec)

/-- 'affiantlaw04.NatUndone', WHERE WHAT IT READS IS OF BULK AT MOST 1048576: true; the input reads as it did. -/
def natUndoneUptoRow : OpenClaim := { program := "ytmaegpgepcjcbaa", sum := "4273b7e28ab41ba85d37e4788e774d497654e992b3037e6e760a7e4e0a197fc1", func := "affiant/affiantlaw04.NatUndone", spec := "natUndone", unfollowed := true, recurses := true, named := ["math/bits.overflowError"], apart := false, narrowed := true }
def NatUndoneUptoSaid : Prop := natUndoneUptoRow.holds Try.pinned (OpenSpec.upto natUndoneSpec)

/-- 'affiantlaw04.NatBack', WHERE WHAT IT READS IS OF BULK AT MOST 1048576: true; the input reads as it did. -/
def natBackUptoRow : OpenClaim := { program := "ytmaegpgepcjcbaa", sum := "4273b7e28ab41ba85d37e4788e774d497654e992b3037e6e760a7e4e0a197fc1", func := "affiant/affiantlaw04.NatBack", spec := "natBack", unfollowed := true, recurses := true, named := ["math/bits.overflowError"], apart := false, narrowed := true }
def NatBackUptoSaid : Prop := natBackUptoRow.holds Try.pinned (OpenSpec.upto natBackSpec)

/-- 'affiantlaw05.ModexpMul', WHERE WHAT IT READS IS OF BULK AT MOST 1048576: true; the input reads as it did. -/
def modexpMulUptoRow : OpenClaim := { program := "ytmaegpgepcjcbaa", sum := "4273b7e28ab41ba85d37e4788e774d497654e992b3037e6e760a7e4e0a197fc1", func := "affiant/affiantlaw05.ModexpMul", spec := "modexpMul", unfollowed := true, recurses := true, named := ["math/bits.overflowError"], apart := false, narrowed := true }
def ModexpMulUptoSaid : Prop := modexpMulUptoRow.holds Try.pinned (OpenSpec.upto modexpMulSpec)

/-- 'affiantlaw05.ModexpExp', WHERE WHAT IT READS IS OF BULK AT MOST 1048576: true; the input reads as it did. -/
def modexpExpUptoRow : OpenClaim := { program := "ytmaegpgepcjcbaa", sum := "4273b7e28ab41ba85d37e4788e774d497654e992b3037e6e760a7e4e0a197fc1", func := "affiant/affiantlaw05.ModexpExp", spec := "modexpExp", unfollowed := true, recurses := true, named := ["math/bits.overflowError"], apart := false, narrowed := true }
def ModexpExpUptoSaid : Prop := modexpExpUptoRow.holds Try.pinned (OpenSpec.upto modexpExpSpec)

/-- 'affiantlaw05.ModexpInverse', WHERE WHAT IT READS IS OF BULK AT MOST 1048576: true; the input reads as it did. -/
def modexpInverseUptoRow : OpenClaim := { program := "ytmaegpgepcjcbaa", sum := "4273b7e28ab41ba85d37e4788e774d497654e992b3037e6e760a7e4e0a197fc1", func := "affiant/affiantlaw05.ModexpInverse", spec := "modexpInverse", unfollowed := true, recurses := true, named := ["math/bits.overflowError"], apart := false, narrowed := true }
def ModexpInverseUptoSaid : Prop := modexpInverseUptoRow.holds Try.pinned (OpenSpec.upto modexpInverseSpec)

/-- 'affiantlaw05.ModexpPowers', WHERE WHAT IT READS IS OF BULK AT MOST 1048576: true; the input reads as it did. -/
def modexpPowersUptoRow : OpenClaim := { program := "ytmaegpgepcjcbaa", sum := "4273b7e28ab41ba85d37e4788e774d497654e992b3037e6e760a7e4e0a197fc1", func := "affiant/affiantlaw05.ModexpPowers", spec := "modexpPowers", unfollowed := true, recurses := true, named := ["math/bits.overflowError"], apart := false, narrowed := true }
def ModexpPowersUptoSaid : Prop := modexpPowersUptoRow.holds Try.pinned (OpenSpec.upto modexpPowersSpec)

/-- 'affiantlaw05.ModexpGcd', WHERE WHAT IT READS IS OF BULK AT MOST 1048576: true; the input reads as it did. -/
def modexpGcdUptoRow : OpenClaim := { program := "ytmaegpgepcjcbaa", sum := "4273b7e28ab41ba85d37e4788e774d497654e992b3037e6e760a7e4e0a197fc1", func := "affiant/affiantlaw05.ModexpGcd", spec := "modexpGcd", unfollowed := true, recurses := true, named := ["math/bits.overflowError"], apart := false, narrowed := true }
def ModexpGcdUptoSaid : Prop := modexpGcdUptoRow.holds Try.pinned (OpenSpec.upto modexpGcdSpec)

end Rows
end Go.Proofs.Ytmaegpgepcjcbaa
