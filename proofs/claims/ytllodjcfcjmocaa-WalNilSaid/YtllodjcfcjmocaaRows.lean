/-
  No cell of these rows narrows 'for every input' (looked for: loops, veiled, ifaces, maps, wideKeys, modest, calm, conditions, laid).
  DERIVED. THE GIVEN ROWS OF THIS SEAT. 6 by the template 'for every input the law returns true; each argument reads behind the call as it read before'; 0 by the template 'total and deterministic' (their statements: YtllodjcfcjmocaaTotals.lean).
  GIVEN WITH THE SEED: the statements are not yours to turn. If you find one false, say at which input.
  Laid BY PROGRAM, IN A SANDBOX (cutbox-rows.mjs): the forced cells as the released guide's own fill.sh prints them over the translation 534c29d6b8ae17cc… (all of the seat's roots in one cut). By AI agents, Wed Nov 11 2026. No macro, syntax, notation, axiom, sorry.
-/
import Derived.Test.YtllodjcfcjmocaaChecked
import GoSem.Claim
import GoSem.ClaimJoined
import GoSem.ClaimMapViews
import Derived.JoinedTies
import Derived.KernelRfl
namespace Go.Proofs.Ytllodjcfcjmocaa
/- THE CELL 'sum', in the pinned program and in every row, IS THE sha256 OF THE DUMP (.gsa) THAT YtllodjcfcjmocaaProg.lean LOADS. Nothing in Lean hashes anything: it is a label: what it is worth is what the hold of that sum in a sandbox is worth. -/
noncomputable def Try.pinned : Pinned := { name := "ytllodjcfcjmocaa", sum := "534c29d6b8ae17ccd5e57d8a1ff1617c9941121dee6688ae7dc0f545a03c336f", checked := Try.checked }
namespace Rows
def none {H : Type} : Left H := { results := [], args := [] }

/-- 'chandlerylaw05.DiskCrashes': WHATEVER THE INPUT: true; the input reads as it did. -/
def diskCrashesSpec : ChangeSpec := { name := "diskCrashes", fn := fun _ => fun
  | [d1, d2, d3, d4] => { results := [.lit (.bool true)], args := [d1, d2, d3, d4] }
  | _ => none }
def diskCrashesRow : OpenClaim := { program := "ytllodjcfcjmocaa", sum := "534c29d6b8ae17ccd5e57d8a1ff1617c9941121dee6688ae7dc0f545a03c336f", func := "chandlery/chandlerylaw05.DiskCrashes", spec := "diskCrashes", unfollowed := true, recurses := true, apart := false }
def DiskCrashesSaid : Prop := diskCrashesRow.holds Try.pinned (OpenSpec.ofChange diskCrashesSpec)

/-- ITS FALSE NEIGHBOUR: 'it returns false'. Refute it at one input. -/
def diskCrashesWrong : ChangeSpec := { name := "diskCrashes", fn := fun _ => fun
  | [d1, d2, d3, d4] => { results := [.lit (.bool false)], args := [d1, d2, d3, d4] }
  | _ => none }
def DiskCrashesWrongFalsely : Prop := diskCrashesRow.holds Try.pinned (OpenSpec.ofChange diskCrashesWrong)

/-- 'chandlerylaw05.DiskKeeps': WHATEVER THE INPUT: true; the input reads as it did. -/
def diskKeepsSpec : ChangeSpec := { name := "diskKeeps", fn := fun _ => fun
  | [d1, d2, d3] => { results := [.lit (.bool true)], args := [d1, d2, d3] }
  | _ => none }
def diskKeepsRow : OpenClaim := { program := "ytllodjcfcjmocaa", sum := "534c29d6b8ae17ccd5e57d8a1ff1617c9941121dee6688ae7dc0f545a03c336f", func := "chandlery/chandlerylaw05.DiskKeeps", spec := "diskKeeps", unfollowed := true, recurses := true, apart := false }
def DiskKeepsSaid : Prop := diskKeepsRow.holds Try.pinned (OpenSpec.ofChange diskKeepsSpec)

/-- ITS FALSE NEIGHBOUR: 'it returns false'. Refute it at one input. -/
def diskKeepsWrong : ChangeSpec := { name := "diskKeeps", fn := fun _ => fun
  | [d1, d2, d3] => { results := [.lit (.bool false)], args := [d1, d2, d3] }
  | _ => none }
def DiskKeepsWrongFalsely : Prop := diskKeepsRow.holds Try.pinned (OpenSpec.ofChange diskKeepsWrong)

/-- 'chandlerylaw05.DiskCounts': WHATEVER THE INPUT: true; the input reads as it did. -/
def diskCountsSpec : ChangeSpec := { name := "diskCounts", fn := fun _ => fun
  | [d1, d2] => { results := [.lit (.bool true)], args := [d1, d2] }
  | _ => none }
def diskCountsRow : OpenClaim := { program := "ytllodjcfcjmocaa", sum := "534c29d6b8ae17ccd5e57d8a1ff1617c9941121dee6688ae7dc0f545a03c336f", func := "chandlery/chandlerylaw05.DiskCounts", spec := "diskCounts", unfollowed := true, recurses := true, apart := false }
def DiskCountsSaid : Prop := diskCountsRow.holds Try.pinned (OpenSpec.ofChange diskCountsSpec)

/-- ITS FALSE NEIGHBOUR: 'it returns false'. Refute it at one input. -/
def diskCountsWrong : ChangeSpec := { name := "diskCounts", fn := fun _ => fun
  | [d1, d2] => { results := [.lit (.bool false)], args := [d1, d2] }
  | _ => none }
def DiskCountsWrongFalsely : Prop := diskCountsRow.holds Try.pinned (OpenSpec.ofChange diskCountsWrong)

/-- 'chandlerylaw05.DiskDoes': WHATEVER THE INPUT: true; the input reads as it did. -/
def diskDoesSpec : ChangeSpec := { name := "diskDoes", fn := fun _ => fun
  | [d1, d2, d3] => { results := [.lit (.bool true)], args := [d1, d2, d3] }
  | _ => none }
def diskDoesRow : OpenClaim := { program := "ytllodjcfcjmocaa", sum := "534c29d6b8ae17ccd5e57d8a1ff1617c9941121dee6688ae7dc0f545a03c336f", func := "chandlery/chandlerylaw05.DiskDoes", spec := "diskDoes", unfollowed := true, recurses := true, apart := false }
def DiskDoesSaid : Prop := diskDoesRow.holds Try.pinned (OpenSpec.ofChange diskDoesSpec)

/-- ITS FALSE NEIGHBOUR: 'it returns false'. Refute it at one input. -/
def diskDoesWrong : ChangeSpec := { name := "diskDoes", fn := fun _ => fun
  | [d1, d2, d3] => { results := [.lit (.bool false)], args := [d1, d2, d3] }
  | _ => none }
def DiskDoesWrongFalsely : Prop := diskDoesRow.holds Try.pinned (OpenSpec.ofChange diskDoesWrong)

/-- 'chandlerylaw05.DiskNil': WHATEVER THE INPUT: true; the input reads as it did. -/
def diskNilSpec : ChangeSpec := { name := "diskNil", fn := fun _ => fun
  | [d1, d2] => { results := [.lit (.bool true)], args := [d1, d2] }
  | _ => none }
def diskNilRow : OpenClaim := { program := "ytllodjcfcjmocaa", sum := "534c29d6b8ae17ccd5e57d8a1ff1617c9941121dee6688ae7dc0f545a03c336f", func := "chandlery/chandlerylaw05.DiskNil", spec := "diskNil", unfollowed := true, recurses := true, apart := false }
def DiskNilSaid : Prop := diskNilRow.holds Try.pinned (OpenSpec.ofChange diskNilSpec)

/-- ITS FALSE NEIGHBOUR: 'it returns false'. Refute it at one input. -/
def diskNilWrong : ChangeSpec := { name := "diskNil", fn := fun _ => fun
  | [d1, d2] => { results := [.lit (.bool false)], args := [d1, d2] }
  | _ => none }
def DiskNilWrongFalsely : Prop := diskNilRow.holds Try.pinned (OpenSpec.ofChange diskNilWrong)

/-- 'chandlerylaw06.WalNil': WHATEVER THE INPUT: true; the input reads as it did. -/
def walNilSpec : ChangeSpec := { name := "walNil", fn := fun _ => fun
  | [d1, d2] => { results := [.lit (.bool true)], args := [d1, d2] }
  | _ => none }
def walNilRow : OpenClaim := { program := "ytllodjcfcjmocaa", sum := "534c29d6b8ae17ccd5e57d8a1ff1617c9941121dee6688ae7dc0f545a03c336f", func := "chandlery/chandlerylaw06.WalNil", spec := "walNil", unfollowed := true, recurses := true, apart := false }
def WalNilSaid : Prop := walNilRow.holds Try.pinned (OpenSpec.ofChange walNilSpec)

/-- ITS FALSE NEIGHBOUR: 'it returns false'. Refute it at one input. -/
def walNilWrong : ChangeSpec := { name := "walNil", fn := fun _ => fun
  | [d1, d2] => { results := [.lit (.bool false)], args := [d1, d2] }
  | _ => none }
def WalNilWrongFalsely : Prop := walNilRow.holds Try.pinned (OpenSpec.ofChange walNilWrong)

/- THE SECOND FORM. 'bulk': how many values and letters a reading holds, each counted each time it is reached (what is shared counts as often as it is met; a slice's spare places count too). A statement '..UptoSaid' is the law's where the arguments, and the package variables that the reading takes, are together of bulk at most 1048576: NARROWER than '..Said'. Prove '..Said' where nothing that the law and all that it calls make is longer than what came in: it says more and counts as full. Else prove '..UptoSaid'. A law counts once. -/
mutual
def uptoBulk {H : Type} : DataW H → Nat
  | .lit (.string bytes) => bytes.length + 1
  | .lit _ => 1
  | .nil => 1
  | .ptr d => uptoBulk d + 1
  | .slice elems spare => uptoBulkAll elems + uptoBulkAll spare + 1
  | .agg parts => uptoBulkAll parts + 1
  | .iface _ d => uptoBulk d + 1
  | .map entries => uptoBulkEntries entries + 1
  | .held _ => 1
def uptoBulkAll {H : Type} : List (DataW H) → Nat
  | [] => 0
  | d :: r => uptoBulk d + uptoBulkAll r
def uptoBulkEntries {H : Type} : List (Lit × DataW H) → Nat
  | [] => 0
  | x :: r => uptoBulkEntry x + uptoBulkEntries r
def uptoBulkEntry {H : Type} : Lit × DataW H → Nat
  | (.string bytes, d) => bytes.length + uptoBulk d + 1
  | (_, d) => uptoBulk d + 1
 end
def uptoSmall : (H : Type) → List (DataW H) → Bool := fun _ ds => decide (uptoBulkAll ds ≤ 1048576)
def OpenSpec.upto (s : _root_.Go.ChangeSpec) : _root_.Go.OpenSpec := { _root_.Go.OpenSpec.ofChange s with cond := some uptoSmall }

/-- 'chandlerylaw05.DiskCrashes', WHERE WHAT IT READS IS OF BULK AT MOST 1048576: true; the input reads as it did. -/
def diskCrashesUptoRow : OpenClaim := { program := "ytllodjcfcjmocaa", sum := "534c29d6b8ae17ccd5e57d8a1ff1617c9941121dee6688ae7dc0f545a03c336f", func := "chandlery/chandlerylaw05.DiskCrashes", spec := "diskCrashes", unfollowed := true, recurses := true, apart := false, narrowed := true }
def DiskCrashesUptoSaid : Prop := diskCrashesUptoRow.holds Try.pinned (OpenSpec.upto diskCrashesSpec)

/-- 'chandlerylaw05.DiskKeeps', WHERE WHAT IT READS IS OF BULK AT MOST 1048576: true; the input reads as it did. -/
def diskKeepsUptoRow : OpenClaim := { program := "ytllodjcfcjmocaa", sum := "534c29d6b8ae17ccd5e57d8a1ff1617c9941121dee6688ae7dc0f545a03c336f", func := "chandlery/chandlerylaw05.DiskKeeps", spec := "diskKeeps", unfollowed := true, recurses := true, apart := false, narrowed := true }
def DiskKeepsUptoSaid : Prop := diskKeepsUptoRow.holds Try.pinned (OpenSpec.upto diskKeepsSpec)

/-- 'chandlerylaw05.DiskCounts', WHERE WHAT IT READS IS OF BULK AT MOST 1048576: true; the input reads as it did. -/
def diskCountsUptoRow : OpenClaim := { program := "ytllodjcfcjmocaa", sum := "534c29d6b8ae17ccd5e57d8a1ff1617c9941121dee6688ae7dc0f545a03c336f", func := "chandlery/chandlerylaw05.DiskCounts", spec := "diskCounts", unfollowed := true, recurses := true, apart := false, narrowed := true }
def DiskCountsUptoSaid : Prop := diskCountsUptoRow.holds Try.pinned (OpenSpec.upto diskCountsSpec)

/-- 'chandlerylaw05.DiskDoes', WHERE WHAT IT READS IS OF BULK AT MOST 1048576: true; the input reads as it did. -/
def diskDoesUptoRow : OpenClaim := { program := "ytllodjcfcjmocaa", sum := "534c29d6b8ae17ccd5e57d8a1ff1617c9941121dee6688ae7dc0f545a03c336f", func := "chandlery/chandlerylaw05.DiskDoes", spec := "diskDoes", unfollowed := true, recurses := true, apart := false, narrowed := true }
def DiskDoesUptoSaid : Prop := diskDoesUptoRow.holds Try.pinned (OpenSpec.upto diskDoesSpec)

/-- 'chandlerylaw05.DiskNil', WHERE WHAT IT READS IS OF BULK AT MOST 1048576: true; the input reads as it did. -/
def diskNilUptoRow : OpenClaim := { program := "ytllodjcfcjmocaa", sum := "534c29d6b8ae17ccd5e57d8a1ff1617c9941121dee6688ae7dc0f545a03c336f", func := "chandlery/chandlerylaw05.DiskNil", spec := "diskNil", unfollowed := true, recurses := true, apart := false, narrowed := true }
def DiskNilUptoSaid : Prop := diskNilUptoRow.holds Try.pinned (OpenSpec.upto diskNilSpec)

/-- 'chandlerylaw06.WalNil', WHERE WHAT IT READS IS OF BULK AT MOST 1048576: true; the input reads as it did. -/
def walNilUptoRow : OpenClaim := { program := "ytllodjcfcjmocaa", sum := "534c29d6b8ae17ccd5e57d8a1ff1617c9941121dee6688ae7dc0f545a03c336f", func := "chandlery/chandlerylaw06.WalNil", spec := "walNil", unfollowed := true, recurses := true, apart := false, narrowed := true }
def WalNilUptoSaid : Prop := walNilUptoRow.holds Try.pinned (OpenSpec.upto walNilSpec)

end Rows
end Go.Proofs.Ytllodjcfcjmocaa
