/-
  No cell of these rows narrows 'for every input' (looked for: loops, veiled, ifaces, maps, wideKeys, modest, calm, conditions, laid).
  DERIVED. THE GIVEN ROWS OF THIS SEAT. 7 by the template 'for every input the law returns true; each argument reads behind the call as it read before'; 0 by the template 'total and deterministic' (their statements: YtklfkocebhhgcaaGreatTotals.lean).
  GIVEN WITH THE SEED: the statements are not yours to turn. If you find one false, say at which input.
  Laid BY PROGRAM, IN A SANDBOX (cutbox-rows.mjs): the forced cells as the released guide's own fill.sh prints them over the translation 0a79b0a074ad0394… (all of the seat's roots in one cut). By AI agents, Wed Nov 11 2026. No macro, syntax, notation, axiom, sorry.
-/
import Derived.Test.YtklfkocebhhgcaaGreatChecked
import GoSem.Claim
import GoSem.ClaimJoined
import GoSem.ClaimMapViews
import Derived.JoinedTies
import Derived.KernelRfl
namespace Go.Proofs.YtklfkocebhhgcaaGreat
/- THE CELL 'sum', in the pinned program and in every row, IS THE sha256 OF THE DUMP (.gsa) THAT YtklfkocebhhgcaaGreatProg.lean LOADS. Nothing in Lean hashes anything: it is a label: what it is worth is what the hold of that sum in a sandbox is worth. -/
noncomputable def Tryz.pinned : Pinned := { name := "ytklfkocebhhgcaagreat", sum := "0a79b0a074ad03944d4ad992c1e093c4571e4f6eed230e1ee76d4b6542d53a0d", checked := Tryz.checked }
namespace Rows
def none {H : Type} : Left H := { results := [], args := [] }

/-- 'chandlerylaw14.DirsDoes': WHATEVER THE INPUT: true; the input reads as it did. -/
def dirsDoesSpec : ChangeSpec := { name := "dirsDoes", fn := fun _ => fun
  | [d] => { results := [.lit (.bool true)], args := [d] }
  | _ => none }
def dirsDoesRow : OpenClaim := { program := "ytklfkocebhhgcaagreat", sum := "0a79b0a074ad03944d4ad992c1e093c4571e4f6eed230e1ee76d4b6542d53a0d", func := "chandlery/chandlerylaw14.DirsDoes", spec := "dirsDoes", inPlace := ["internal/bytealg.IndexByteString", "internal/bytealg.IndexString", "slices.overlaps[chandlery/api.Pair]", "slices.overlaps[string]", "slices.overlaps[int]"], unfollowed := true, recurses := true, named := ["internal/bytealg.MaxLen"], apart := false }
def DirsDoesSaid : Prop := dirsDoesRow.holds Tryz.pinned (OpenSpec.ofChange dirsDoesSpec)

/-- ITS FALSE NEIGHBOUR: 'it returns false'. Refute it at one input. -/
def dirsDoesWrong : ChangeSpec := { name := "dirsDoes", fn := fun _ => fun
  | [d] => { results := [.lit (.bool false)], args := [d] }
  | _ => none }
def DirsDoesWrongFalsely : Prop := dirsDoesRow.holds Tryz.pinned (OpenSpec.ofChange dirsDoesWrong)

/-- 'chandlerylaw15.FsysPaths': WHATEVER THE INPUT: true; the input reads as it did. -/
def fsysPathsSpec : ChangeSpec := { name := "fsysPaths", fn := fun _ => fun
  | [d] => { results := [.lit (.bool true)], args := [d] }
  | _ => none }
def fsysPathsRow : OpenClaim := { program := "ytklfkocebhhgcaagreat", sum := "0a79b0a074ad03944d4ad992c1e093c4571e4f6eed230e1ee76d4b6542d53a0d", func := "chandlery/chandlerylaw15.FsysPaths", spec := "fsysPaths", inPlace := ["internal/bytealg.IndexByteString", "internal/bytealg.IndexString", "slices.overlaps[chandlery/api.Pair]", "slices.overlaps[string]", "slices.overlaps[int]"], unfollowed := true, recurses := true, named := ["internal/bytealg.MaxLen"], apart := false }
def FsysPathsSaid : Prop := fsysPathsRow.holds Tryz.pinned (OpenSpec.ofChange fsysPathsSpec)

/-- ITS FALSE NEIGHBOUR: 'it returns false'. Refute it at one input. -/
def fsysPathsWrong : ChangeSpec := { name := "fsysPaths", fn := fun _ => fun
  | [d] => { results := [.lit (.bool false)], args := [d] }
  | _ => none }
def FsysPathsWrongFalsely : Prop := fsysPathsRow.holds Tryz.pinned (OpenSpec.ofChange fsysPathsWrong)

/-- 'chandlerylaw15.FsysDoes': WHATEVER THE INPUT: true; the input reads as it did. -/
def fsysDoesSpec : ChangeSpec := { name := "fsysDoes", fn := fun _ => fun
  | [d] => { results := [.lit (.bool true)], args := [d] }
  | _ => none }
def fsysDoesRow : OpenClaim := { program := "ytklfkocebhhgcaagreat", sum := "0a79b0a074ad03944d4ad992c1e093c4571e4f6eed230e1ee76d4b6542d53a0d", func := "chandlery/chandlerylaw15.FsysDoes", spec := "fsysDoes", inPlace := ["internal/bytealg.IndexByteString", "internal/bytealg.IndexString", "slices.overlaps[chandlery/api.Pair]", "slices.overlaps[string]", "slices.overlaps[int]"], unfollowed := true, recurses := true, named := ["internal/bytealg.MaxLen"], apart := false }
def FsysDoesSaid : Prop := fsysDoesRow.holds Tryz.pinned (OpenSpec.ofChange fsysDoesSpec)

/-- ITS FALSE NEIGHBOUR: 'it returns false'. Refute it at one input. -/
def fsysDoesWrong : ChangeSpec := { name := "fsysDoes", fn := fun _ => fun
  | [d] => { results := [.lit (.bool false)], args := [d] }
  | _ => none }
def FsysDoesWrongFalsely : Prop := fsysDoesRow.holds Tryz.pinned (OpenSpec.ofChange fsysDoesWrong)

/-- 'chandlerylaw15.FsysStays': WHATEVER THE INPUT: true; the input reads as it did. -/
def fsysStaysSpec : ChangeSpec := { name := "fsysStays", fn := fun _ => fun
  | [d1, d2] => { results := [.lit (.bool true)], args := [d1, d2] }
  | _ => none }
def fsysStaysRow : OpenClaim := { program := "ytklfkocebhhgcaagreat", sum := "0a79b0a074ad03944d4ad992c1e093c4571e4f6eed230e1ee76d4b6542d53a0d", func := "chandlery/chandlerylaw15.FsysStays", spec := "fsysStays", inPlace := ["internal/bytealg.IndexByteString", "internal/bytealg.IndexString", "slices.overlaps[chandlery/api.Pair]", "slices.overlaps[string]", "slices.overlaps[int]"], unfollowed := true, recurses := true, named := ["internal/bytealg.MaxLen"], apart := false }
def FsysStaysSaid : Prop := fsysStaysRow.holds Tryz.pinned (OpenSpec.ofChange fsysStaysSpec)

/-- ITS FALSE NEIGHBOUR: 'it returns false'. Refute it at one input. -/
def fsysStaysWrong : ChangeSpec := { name := "fsysStays", fn := fun _ => fun
  | [d1, d2] => { results := [.lit (.bool false)], args := [d1, d2] }
  | _ => none }
def FsysStaysWrongFalsely : Prop := fsysStaysRow.holds Tryz.pinned (OpenSpec.ofChange fsysStaysWrong)

/-- 'chandlerylaw15.FsysMoves': WHATEVER THE INPUT: true; the input reads as it did. -/
def fsysMovesSpec : ChangeSpec := { name := "fsysMoves", fn := fun _ => fun
  | [d1, d2, d3] => { results := [.lit (.bool true)], args := [d1, d2, d3] }
  | _ => none }
def fsysMovesRow : OpenClaim := { program := "ytklfkocebhhgcaagreat", sum := "0a79b0a074ad03944d4ad992c1e093c4571e4f6eed230e1ee76d4b6542d53a0d", func := "chandlery/chandlerylaw15.FsysMoves", spec := "fsysMoves", inPlace := ["internal/bytealg.IndexByteString", "internal/bytealg.IndexString", "slices.overlaps[chandlery/api.Pair]", "slices.overlaps[string]", "slices.overlaps[int]"], unfollowed := true, recurses := true, named := ["internal/bytealg.MaxLen"], apart := false }
def FsysMovesSaid : Prop := fsysMovesRow.holds Tryz.pinned (OpenSpec.ofChange fsysMovesSpec)

/-- ITS FALSE NEIGHBOUR: 'it returns false'. Refute it at one input. -/
def fsysMovesWrong : ChangeSpec := { name := "fsysMoves", fn := fun _ => fun
  | [d1, d2, d3] => { results := [.lit (.bool false)], args := [d1, d2, d3] }
  | _ => none }
def FsysMovesWrongFalsely : Prop := fsysMovesRow.holds Tryz.pinned (OpenSpec.ofChange fsysMovesWrong)

/-- 'chandlerylaw15.FsysLinks': WHATEVER THE INPUT: true; the input reads as it did. -/
def fsysLinksSpec : ChangeSpec := { name := "fsysLinks", fn := fun _ => fun
  | [d1, d2, d3] => { results := [.lit (.bool true)], args := [d1, d2, d3] }
  | _ => none }
def fsysLinksRow : OpenClaim := { program := "ytklfkocebhhgcaagreat", sum := "0a79b0a074ad03944d4ad992c1e093c4571e4f6eed230e1ee76d4b6542d53a0d", func := "chandlery/chandlerylaw15.FsysLinks", spec := "fsysLinks", inPlace := ["internal/bytealg.IndexByteString", "internal/bytealg.IndexString", "slices.overlaps[chandlery/api.Pair]", "slices.overlaps[string]", "slices.overlaps[int]"], unfollowed := true, recurses := true, named := ["internal/bytealg.MaxLen"], apart := false }
def FsysLinksSaid : Prop := fsysLinksRow.holds Tryz.pinned (OpenSpec.ofChange fsysLinksSpec)

/-- ITS FALSE NEIGHBOUR: 'it returns false'. Refute it at one input. -/
def fsysLinksWrong : ChangeSpec := { name := "fsysLinks", fn := fun _ => fun
  | [d1, d2, d3] => { results := [.lit (.bool false)], args := [d1, d2, d3] }
  | _ => none }
def FsysLinksWrongFalsely : Prop := fsysLinksRow.holds Tryz.pinned (OpenSpec.ofChange fsysLinksWrong)

/-- 'chandlerylaw15.FsysChecks': WHATEVER THE INPUT: true; the input reads as it did. -/
def fsysChecksSpec : ChangeSpec := { name := "fsysChecks", fn := fun _ => fun
  | [d1, d2, d3, d4, d5] => { results := [.lit (.bool true)], args := [d1, d2, d3, d4, d5] }
  | _ => none }
def fsysChecksRow : OpenClaim := { program := "ytklfkocebhhgcaagreat", sum := "0a79b0a074ad03944d4ad992c1e093c4571e4f6eed230e1ee76d4b6542d53a0d", func := "chandlery/chandlerylaw15.FsysChecks", spec := "fsysChecks", inPlace := ["internal/bytealg.IndexByteString", "internal/bytealg.IndexString", "slices.overlaps[chandlery/api.Pair]", "slices.overlaps[string]", "slices.overlaps[int]"], unfollowed := true, recurses := true, named := ["internal/bytealg.MaxLen"], apart := false }
def FsysChecksSaid : Prop := fsysChecksRow.holds Tryz.pinned (OpenSpec.ofChange fsysChecksSpec)

/-- ITS FALSE NEIGHBOUR: 'it returns false'. Refute it at one input. -/
def fsysChecksWrong : ChangeSpec := { name := "fsysChecks", fn := fun _ => fun
  | [d1, d2, d3, d4, d5] => { results := [.lit (.bool false)], args := [d1, d2, d3, d4, d5] }
  | _ => none }
def FsysChecksWrongFalsely : Prop := fsysChecksRow.holds Tryz.pinned (OpenSpec.ofChange fsysChecksWrong)

/- THE SECOND FORM. 'bulk': how many values and letters a reading holds, each counted each time it is reached (what is shared counts as often as it is met; a slice's spare places count too). A statement '..UptoSaid' is the law's where the arguments, and the package variables that the reading takes, are together of bulk at most 1048576: NARROWER than '..Said'. Prove '..Said' where nothing that the law and all that it calls make is longer than what came in: it says more and counts as full. Else prove '..UptoSaid'. A law counts once. -/
mutual
def uptoBulk {H : Type} : DataW H → Nat
  | .lit (.string bytes) => bytes.length + 1
  | .lit _ => 1
  | .nil => 1
  | .ptr d => uptoBulk d + 1
  | .slice elems spare => uptoBulkAll elems + uptoBulkAll spare + 1
  | .agg parts => uptoBulkAll parts + 1
  | .iface _ d => uptoBulk d + 1
  | .map entries => uptoBulkEntries entries + 1
  | .held _ => 1
def uptoBulkAll {H : Type} : List (DataW H) → Nat
  | [] => 0
  | d :: r => uptoBulk d + uptoBulkAll r
def uptoBulkEntries {H : Type} : List (Lit × DataW H) → Nat
  | [] => 0
  | x :: r => uptoBulkEntry x + uptoBulkEntries r
def uptoBulkEntry {H : Type} : Lit × DataW H → Nat
  | (.string bytes, d) => bytes.length + uptoBulk d + 1
  | (_, d) => uptoBulk d + 1
 end
def uptoSmall : (H : Type) → List (DataW H) → Bool := fun _ ds => decide (uptoBulkAll ds ≤ 1048576)
def OpenSpec.upto (s : _root_.Go.ChangeSpec) : _root_.Go.OpenSpec := { _root_.Go.OpenSpec.ofChange s with cond := some uptoSmall }

/-- 'chandlerylaw14.DirsDoes', WHERE WHAT IT READS IS OF BULK AT MOST 1048576: true; the input reads as it did. -/
def dirsDoesUptoRow : OpenClaim := { program := "ytklfkocebhhgcaagreat", sum := "0a79b0a074ad03944d4ad992c1e093c4571e4f6eed230e1ee76d4b6542d53a0d", func := "chandlery/chandlerylaw14.DirsDoes", spec := "dirsDoes", inPlace := ["internal/bytealg.IndexByteString", "internal/bytealg.IndexString", "slices.overlaps[chandlery/api.Pair]", "slices.overlaps[string]", "slices.overlaps[int]"], unfollowed := true, recurses := true, named := ["internal/bytealg.MaxLen"], apart := false, narrowed := true }
def DirsDoesUptoSaid : Prop := dirsDoesUptoRow.holds Tryz.pinned (OpenSpec.upto dirsDoesSpec)

/-- 'chandlerylaw15.FsysPaths', WHERE WHAT IT READS IS OF BULK AT MOST 1048576: true; the input reads as it did. -/
def fsysPathsUptoRow : OpenClaim := { program := "ytklfkocebhhgcaagreat", sum := "0a79b0a074ad03944d4ad992c1e093c4571e4f6eed230e1ee76d4b6542d53a0d", func := "chandlery/chandlerylaw15.FsysPaths", spec := "fsysPaths", inPlace := ["internal/bytealg.IndexByteString", "internal/bytealg.IndexString", "slices.overlaps[chandlery/api.Pair]", "slices.overlaps[string]", "slices.overlaps[int]"], unfollowed := true, recurses := true, named := ["internal/bytealg.MaxLen"], apart := false, narrowed := true }
def FsysPathsUptoSaid : Prop := fsysPathsUptoRow.holds Tryz.pinned (OpenSpec.upto fsysPathsSpec)

/-- 'chandlerylaw15.FsysDoes', WHERE WHAT IT READS IS OF BULK AT MOST 1048576: true; the input reads as it did. -/
def fsysDoesUptoRow : OpenClaim := { program := "ytklfkocebhhgcaagreat", sum := "0a79b0a074ad03944d4ad992c1e093c4571e4f6eed230e1ee76d4b6542d53a0d", func := "chandlery/chandlerylaw15.FsysDoes", spec := "fsysDoes", inPlace := ["internal/bytealg.IndexByteString", "internal/bytealg.IndexString", "slices.overlaps[chandlery/api.Pair]", "slices.overlaps[string]", "slices.overlaps[int]"], unfollowed := true, recurses := true, named := ["internal/bytealg.MaxLen"], apart := false, narrowed := true }
def FsysDoesUptoSaid : Prop := fsysDoesUptoRow.holds Tryz.pinned (OpenSpec.upto fsysDoesSpec)

/-- 'chandlerylaw15.FsysStays', WHERE WHAT IT READS IS OF BULK AT MOST 1048576: true; the input reads as it did. -/
def fsysStaysUptoRow : OpenClaim := { program := "ytklfkocebhhgcaagreat", sum := "0a79b0a074ad03944d4ad992c1e093c4571e4f6eed230e1ee76d4b6542d53a0d", func := "chandlery/chandlerylaw15.FsysStays", spec := "fsysStays", inPlace := ["internal/bytealg.IndexByteString", "internal/bytealg.IndexString", "slices.overlaps[chandlery/api.Pair]", "slices.overlaps[string]", "slices.overlaps[int]"], unfollowed := true, recurses := true, named := ["internal/bytealg.MaxLen"], apart := false, narrowed := true }
def FsysStaysUptoSaid : Prop := fsysStaysUptoRow.holds Tryz.pinned (OpenSpec.upto fsysStaysSpec)

/-- 'chandlerylaw15.FsysMoves', WHERE WHAT IT READS IS OF BULK AT MOST 1048576: true; the input reads as it did. -/
def fsysMovesUptoRow : OpenClaim := { program := "ytklfkocebhhgcaagreat", sum := "0a79b0a074ad03944d4ad992c1e093c4571e4f6eed230e1ee76d4b6542d53a0d", func := "chandlery/chandlerylaw15.FsysMoves", spec := "fsysMoves", inPlace := ["internal/bytealg.IndexByteString", "internal/bytealg.IndexString", "slices.overlaps[chandlery/api.Pair]", "slices.overlaps[string]", "slices.overlaps[int]"], unfollowed := true, recurses := true, named := ["internal/bytealg.MaxLen"], apart := false, narrowed := true }
def FsysMovesUptoSaid : Prop := fsysMovesUptoRow.holds Tryz.pinned (OpenSpec.upto fsysMovesSpec)

/-- 'chandlerylaw15.FsysLinks', WHERE WHAT IT READS IS OF BULK AT MOST 1048576: true; the input reads as it did. -/
def fsysLinksUptoRow : OpenClaim := { program := "ytklfkocebhhgcaagreat", sum := "0a79b0a074ad03944d4ad992c1e093c4571e4f6eed230e1ee76d4b6542d53a0d", func := "chandlery/chandlerylaw15.FsysLinks", spec := "fsysLinks", inPlace := ["internal/bytealg.IndexByteString", "internal/bytealg.IndexString", "slices.overlaps[chandlery/api.Pair]", "slices.overlaps[string]", "slices.overlaps[int]"], unfollowed := true, recurses := true, named := ["internal/bytealg.MaxLen"], apart := false, narrowed := true }
def FsysLinksUptoSaid : Prop := fsysLinksUptoRow.holds Tryz.pinned (OpenSpec.upto fsysLinksSpec)

/-- 'chandlerylaw15.FsysChecks', WHERE WHAT IT READS IS OF BULK AT MOST 1048576: true; the input reads as it did. -/
def fsysChecksUptoRow : OpenClaim := { program := "ytklfkocebhhgcaagreat", sum := "0a79b0a074ad03944d4ad992c1e093c4571e4f6eed230e1ee76d4b6542d53a0d", func := "chandlery/chandlerylaw15.FsysChecks", spec := "fsysChecks", inPlace := ["internal/bytealg.IndexByteString", "internal/bytealg.IndexString", "slices.overlaps[chandlery/api.Pair]", "slices.overlaps[string]", "slices.overlaps[int]"], unfollowed := true, recurses := true, named := ["internal/bytealg.MaxLen"], apart := false, narrowed := true }
def FsysChecksUptoSaid : Prop := fsysChecksUptoRow.holds Tryz.pinned (OpenSpec.upto fsysChecksSpec)

end Rows
end Go.Proofs.YtklfkocebhhgcaaGreat
