/-
  No cell of these rows narrows 'for every input' (looked for: loops, veiled, ifaces, maps, wideKeys, modest, calm, conditions, laid).
  DERIVED. THE GIVEN ROWS OF THIS SEAT. 12 by the template 'for every input the law returns true; each argument reads behind the call as it read before'; 0 by the template 'total and deterministic' (their statements: YtpjfheadolphgaaGreatTotals.lean).
  GIVEN WITH THE SEED: the statements are not yours to turn. If you find one false, say at which input.
  Laid BY PROGRAM, IN A SANDBOX (cutbox-rows.mjs): the forced cells as the released guide's own fill.sh prints them over the translation 915296a023f2254d… (all of the seat's roots in one cut). By AI agents, Wed Nov 11 2026. No macro, syntax, notation, axiom, sorry.
-/
import Derived.Test.YtpjfheadolphgaaGreatChecked
import GoSem.Claim
import GoSem.ClaimJoined
import GoSem.ClaimMapViews
import Derived.JoinedTies
import Derived.KernelRfl
namespace Go.Proofs.YtpjfheadolphgaaGreat
/- THE CELL 'sum', in the pinned program and in every row, IS THE sha256 OF THE DUMP (.gsa) THAT YtpjfheadolphgaaGreatProg.lean LOADS. Nothing in Lean hashes anything: it is a label: what it is worth is what the hold of that sum in a sandbox is worth. -/
noncomputable def Tryz.pinned : Pinned := { name := "ytpjfheadolphgaagreat", sum := "915296a023f2254da732fe298f1b1aa6724bc2a3eb85424d1827d07bf4dabb87", checked := Tryz.checked }
namespace Rows
def none {H : Type} : Left H := { results := [], args := [] }

/-- 'chandlerylaw15.FsysDoes': WHATEVER THE INPUT: true; the input reads as it did. -/
def fsysDoesSpec : ChangeSpec := { name := "fsysDoes", fn := fun _ => fun
  | [d] => { results := [.lit (.bool true)], args := [d] }
  | _ => none }
def fsysDoesRow : OpenClaim := { program := "ytpjfheadolphgaagreat", sum := "915296a023f2254da732fe298f1b1aa6724bc2a3eb85424d1827d07bf4dabb87", func := "chandlery/chandlerylaw15.FsysDoes", spec := "fsysDoes", inPlace := ["internal/bytealg.IndexByteString", "internal/bytealg.IndexString", "slices.overlaps[chandlery/api.Pair]", "slices.overlaps[string]", "slices.overlaps[int]"], unfollowed := true, recurses := true, named := ["internal/bytealg.MaxLen"], apart := false }
def FsysDoesSaid : Prop := fsysDoesRow.holds Tryz.pinned (OpenSpec.ofChange fsysDoesSpec)

/-- ITS FALSE NEIGHBOUR: 'it returns false'. Refute it at one input. -/
def fsysDoesWrong : ChangeSpec := { name := "fsysDoes", fn := fun _ => fun
  | [d] => { results := [.lit (.bool false)], args := [d] }
  | _ => none }
def FsysDoesWrongFalsely : Prop := fsysDoesRow.holds Tryz.pinned (OpenSpec.ofChange fsysDoesWrong)

/-- 'chandlerylaw15.FsysStays': WHATEVER THE INPUT: true; the input reads as it did. -/
def fsysStaysSpec : ChangeSpec := { name := "fsysStays", fn := fun _ => fun
  | [d1, d2] => { results := [.lit (.bool true)], args := [d1, d2] }
  | _ => none }
def fsysStaysRow : OpenClaim := { program := "ytpjfheadolphgaagreat", sum := "915296a023f2254da732fe298f1b1aa6724bc2a3eb85424d1827d07bf4dabb87", func := "chandlery/chandlerylaw15.FsysStays", spec := "fsysStays", inPlace := ["internal/bytealg.IndexByteString", "internal/bytealg.IndexString", "slices.overlaps[chandlery/api.Pair]", "slices.overlaps[string]", "slices.overlaps[int]"], unfollowed := true, recurses := true, named := ["internal/bytealg.MaxLen"], apart := false }
def FsysStaysSaid : Prop := fsysStaysRow.holds Tryz.pinned (OpenSpec.ofChange fsysStaysSpec)

/-- ITS FALSE NEIGHBOUR: 'it returns false'. Refute it at one input. -/
def fsysStaysWrong : ChangeSpec := { name := "fsysStays", fn := fun _ => fun
  | [d1, d2] => { results := [.lit (.bool false)], args := [d1, d2] }
  | _ => none }
def FsysStaysWrongFalsely : Prop := fsysStaysRow.holds Tryz.pinned (OpenSpec.ofChange fsysStaysWrong)

/-- 'chandlerylaw15.FsysMoves': WHATEVER THE INPUT: true; the input reads as it did. -/
def fsysMovesSpec : ChangeSpec := { name := "fsysMoves", fn := fun _ => fun
  | [d1, d2, d3] => { results := [.lit (.bool true)], args := [d1, d2, d3] }
  | _ => none }
def fsysMovesRow : OpenClaim := { program := "ytpjfheadolphgaagreat", sum := "915296a023f2254da732fe298f1b1aa6724bc2a3eb85424d1827d07bf4dabb87", func := "chandlery/chandlerylaw15.FsysMoves", spec := "fsysMoves", inPlace := ["internal/bytealg.IndexByteString", "internal/bytealg.IndexString", "slices.overlaps[chandlery/api.Pair]", "slices.overlaps[string]", "slices.overlaps[int]"], unfollowed := true, recurses := true, named := ["internal/bytealg.MaxLen"], apart := false }
def FsysMovesSaid : Prop := fsysMovesRow.holds Tryz.pinned (OpenSpec.ofChange fsysMovesSpec)

/-- ITS FALSE NEIGHBOUR: 'it returns false'. Refute it at one input. -/
def fsysMovesWrong : ChangeSpec := { name := "fsysMoves", fn := fun _ => fun
  | [d1, d2, d3] => { results := [.lit (.bool false)], args := [d1, d2, d3] }
  | _ => none }
def FsysMovesWrongFalsely : Prop := fsysMovesRow.holds Tryz.pinned (OpenSpec.ofChange fsysMovesWrong)

/-- 'chandlerylaw15.FsysLinks': WHATEVER THE INPUT: true; the input reads as it did. -/
def fsysLinksSpec : ChangeSpec := { name := "fsysLinks", fn := fun _ => fun
  | [d1, d2, d3] => { results := [.lit (.bool true)], args := [d1, d2, d3] }
  | _ => none }
def fsysLinksRow : OpenClaim := { program := "ytpjfheadolphgaagreat", sum := "915296a023f2254da732fe298f1b1aa6724bc2a3eb85424d1827d07bf4dabb87", func := "chandlery/chandlerylaw15.FsysLinks", spec := "fsysLinks", inPlace := ["internal/bytealg.IndexByteString", "internal/bytealg.IndexString", "slices.overlaps[chandlery/api.Pair]", "slices.overlaps[string]", "slices.overlaps[int]"], unfollowed := true, recurses := true, named := ["internal/bytealg.MaxLen"], apart := false }
def FsysLinksSaid : Prop := fsysLinksRow.holds Tryz.pinned (OpenSpec.ofChange fsysLinksSpec)

/-- ITS FALSE NEIGHBOUR: 'it returns false'. Refute it at one input. -/
def fsysLinksWrong : ChangeSpec := { name := "fsysLinks", fn := fun _ => fun
  | [d1, d2, d3] => { results := [.lit (.bool false)], args := [d1, d2, d3] }
  | _ => none }
def FsysLinksWrongFalsely : Prop := fsysLinksRow.holds Tryz.pinned (OpenSpec.ofChange fsysLinksWrong)

/-- 'chandlerylaw23.DbCloses': WHATEVER THE INPUT: true; the input reads as it did. -/
def dbClosesSpec : ChangeSpec := { name := "dbCloses", fn := fun _ => fun
  | [d1, d2, d3] => { results := [.lit (.bool true)], args := [d1, d2, d3] }
  | _ => none }
def dbClosesRow : OpenClaim := { program := "ytpjfheadolphgaagreat", sum := "915296a023f2254da732fe298f1b1aa6724bc2a3eb85424d1827d07bf4dabb87", func := "chandlery/chandlerylaw23.DbCloses", spec := "dbCloses", inPlace := ["internal/bytealg.IndexByteString", "internal/bytealg.IndexString", "slices.overlaps[chandlery/api.Pair]", "slices.overlaps[string]", "slices.overlaps[int]"], unfollowed := true, recurses := true, named := ["internal/bytealg.MaxLen"], apart := false }
def DbClosesSaid : Prop := dbClosesRow.holds Tryz.pinned (OpenSpec.ofChange dbClosesSpec)

/-- ITS FALSE NEIGHBOUR: 'it returns false'. Refute it at one input. -/
def dbClosesWrong : ChangeSpec := { name := "dbCloses", fn := fun _ => fun
  | [d1, d2, d3] => { results := [.lit (.bool false)], args := [d1, d2, d3] }
  | _ => none }
def DbClosesWrongFalsely : Prop := dbClosesRow.holds Tryz.pinned (OpenSpec.ofChange dbClosesWrong)

/-- 'chandlerylaw23.DbDoes': WHATEVER THE INPUT: true; the input reads as it did. -/
def dbDoesSpec : ChangeSpec := { name := "dbDoes", fn := fun _ => fun
  | [d] => { results := [.lit (.bool true)], args := [d] }
  | _ => none }
def dbDoesRow : OpenClaim := { program := "ytpjfheadolphgaagreat", sum := "915296a023f2254da732fe298f1b1aa6724bc2a3eb85424d1827d07bf4dabb87", func := "chandlery/chandlerylaw23.DbDoes", spec := "dbDoes", inPlace := ["internal/bytealg.IndexByteString", "internal/bytealg.IndexString", "slices.overlaps[chandlery/api.Pair]", "slices.overlaps[string]", "slices.overlaps[int]"], unfollowed := true, recurses := true, named := ["internal/bytealg.MaxLen"], apart := false }
def DbDoesSaid : Prop := dbDoesRow.holds Tryz.pinned (OpenSpec.ofChange dbDoesSpec)

/-- ITS FALSE NEIGHBOUR: 'it returns false'. Refute it at one input. -/
def dbDoesWrong : ChangeSpec := { name := "dbDoes", fn := fun _ => fun
  | [d] => { results := [.lit (.bool false)], args := [d] }
  | _ => none }
def DbDoesWrongFalsely : Prop := dbDoesRow.holds Tryz.pinned (OpenSpec.ofChange dbDoesWrong)

/-- 'chandlerylaw15.FsysChecks': WHATEVER THE INPUT: true; the input reads as it did. -/
def fsysChecksSpec : ChangeSpec := { name := "fsysChecks", fn := fun _ => fun
  | [d1, d2, d3, d4, d5] => { results := [.lit (.bool true)], args := [d1, d2, d3, d4, d5] }
  | _ => none }
def fsysChecksRow : OpenClaim := { program := "ytpjfheadolphgaagreat", sum := "915296a023f2254da732fe298f1b1aa6724bc2a3eb85424d1827d07bf4dabb87", func := "chandlery/chandlerylaw15.FsysChecks", spec := "fsysChecks", inPlace := ["internal/bytealg.IndexByteString", "internal/bytealg.IndexString", "slices.overlaps[chandlery/api.Pair]", "slices.overlaps[string]", "slices.overlaps[int]"], unfollowed := true, recurses := true, named := ["internal/bytealg.MaxLen"], apart := false }
def FsysChecksSaid : Prop := fsysChecksRow.holds Tryz.pinned (OpenSpec.ofChange fsysChecksSpec)

/-- ITS FALSE NEIGHBOUR: 'it returns false'. Refute it at one input. -/
def fsysChecksWrong : ChangeSpec := { name := "fsysChecks", fn := fun _ => fun
  | [d1, d2, d3, d4, d5] => { results := [.lit (.bool false)], args := [d1, d2, d3, d4, d5] }
  | _ => none }
def FsysChecksWrongFalsely : Prop := fsysChecksRow.holds Tryz.pinned (OpenSpec.ofChange fsysChecksWrong)

/-- 'chandlerylaw25.ProfilesHold': WHATEVER THE INPUT: true; the input reads as it did. -/
def profilesHoldSpec : ChangeSpec := { name := "profilesHold", fn := fun _ => fun
  | [d] => { results := [.lit (.bool true)], args := [d] }
  | _ => none }
def profilesHoldRow : OpenClaim := { program := "ytpjfheadolphgaagreat", sum := "915296a023f2254da732fe298f1b1aa6724bc2a3eb85424d1827d07bf4dabb87", func := "chandlery/chandlerylaw25.ProfilesHold", spec := "profilesHold", inPlace := ["internal/bytealg.IndexByteString", "internal/bytealg.IndexString", "slices.overlaps[chandlery/api.Pair]", "slices.overlaps[string]", "slices.overlaps[int]"], unfollowed := true, recurses := true, named := ["internal/bytealg.MaxLen"], apart := false }
def ProfilesHoldSaid : Prop := profilesHoldRow.holds Tryz.pinned (OpenSpec.ofChange profilesHoldSpec)

/-- ITS FALSE NEIGHBOUR: 'it returns false'. Refute it at one input. -/
def profilesHoldWrong : ChangeSpec := { name := "profilesHold", fn := fun _ => fun
  | [d] => { results := [.lit (.bool false)], args := [d] }
  | _ => none }
def ProfilesHoldWrongFalsely : Prop := profilesHoldRow.holds Tryz.pinned (OpenSpec.ofChange profilesHoldWrong)

/-- 'chandlerylaw25.ProfilesRise': WHATEVER THE INPUT: true; the input reads as it did. -/
def profilesRiseSpec : ChangeSpec := { name := "profilesRise", fn := fun _ => fun
  | [d] => { results := [.lit (.bool true)], args := [d] }
  | _ => none }
def profilesRiseRow : OpenClaim := { program := "ytpjfheadolphgaagreat", sum := "915296a023f2254da732fe298f1b1aa6724bc2a3eb85424d1827d07bf4dabb87", func := "chandlery/chandlerylaw25.ProfilesRise", spec := "profilesRise", inPlace := ["internal/bytealg.IndexByteString", "internal/bytealg.IndexString", "slices.overlaps[chandlery/api.Pair]", "slices.overlaps[string]", "slices.overlaps[int]"], unfollowed := true, recurses := true, named := ["internal/bytealg.MaxLen"], apart := false }
def ProfilesRiseSaid : Prop := profilesRiseRow.holds Tryz.pinned (OpenSpec.ofChange profilesRiseSpec)

/-- ITS FALSE NEIGHBOUR: 'it returns false'. Refute it at one input. -/
def profilesRiseWrong : ChangeSpec := { name := "profilesRise", fn := fun _ => fun
  | [d] => { results := [.lit (.bool false)], args := [d] }
  | _ => none }
def ProfilesRiseWrongFalsely : Prop := profilesRiseRow.holds Tryz.pinned (OpenSpec.ofChange profilesRiseWrong)

/-- 'chandlerylaw23.DbEnds': WHATEVER THE INPUT: true; the input reads as it did. -/
def dbEndsSpec : ChangeSpec := { name := "dbEnds", fn := fun _ => fun
  | [d] => { results := [.lit (.bool true)], args := [d] }
  | _ => none }
def dbEndsRow : OpenClaim := { program := "ytpjfheadolphgaagreat", sum := "915296a023f2254da732fe298f1b1aa6724bc2a3eb85424d1827d07bf4dabb87", func := "chandlery/chandlerylaw23.DbEnds", spec := "dbEnds", inPlace := ["internal/bytealg.IndexByteString", "internal/bytealg.IndexString", "slices.overlaps[chandlery/api.Pair]", "slices.overlaps[string]", "slices.overlaps[int]"], unfollowed := true, recurses := true, named := ["internal/bytealg.MaxLen"], apart := false }
def DbEndsSaid : Prop := dbEndsRow.holds Tryz.pinned (OpenSpec.ofChange dbEndsSpec)

/-- ITS FALSE NEIGHBOUR: 'it returns false'. Refute it at one input. -/
def dbEndsWrong : ChangeSpec := { name := "dbEnds", fn := fun _ => fun
  | [d] => { results := [.lit (.bool false)], args := [d] }
  | _ => none }
def DbEndsWrongFalsely : Prop := dbEndsRow.holds Tryz.pinned (OpenSpec.ofChange dbEndsWrong)

/-- 'chandlerylaw25.ProfilesDo': WHATEVER THE INPUT: true; the input reads as it did. -/
def profilesDoSpec : ChangeSpec := { name := "profilesDo", fn := fun _ => fun
  | [d] => { results := [.lit (.bool true)], args := [d] }
  | _ => none }
def profilesDoRow : OpenClaim := { program := "ytpjfheadolphgaagreat", sum := "915296a023f2254da732fe298f1b1aa6724bc2a3eb85424d1827d07bf4dabb87", func := "chandlery/chandlerylaw25.ProfilesDo", spec := "profilesDo", inPlace := ["internal/bytealg.IndexByteString", "internal/bytealg.IndexString", "slices.overlaps[chandlery/api.Pair]", "slices.overlaps[string]", "slices.overlaps[int]"], unfollowed := true, recurses := true, named := ["internal/bytealg.MaxLen"], apart := false }
def ProfilesDoSaid : Prop := profilesDoRow.holds Tryz.pinned (OpenSpec.ofChange profilesDoSpec)

/-- ITS FALSE NEIGHBOUR: 'it returns false'. Refute it at one input. -/
def profilesDoWrong : ChangeSpec := { name := "profilesDo", fn := fun _ => fun
  | [d] => { results := [.lit (.bool false)], args := [d] }
  | _ => none }
def ProfilesDoWrongFalsely : Prop := profilesDoRow.holds Tryz.pinned (OpenSpec.ofChange profilesDoWrong)

/-- 'chandlerylaw25.ProfilesNil': WHATEVER THE INPUT: true; the input reads as it did. -/
def profilesNilSpec : ChangeSpec := { name := "profilesNil", fn := fun _ => fun
  | [d1, d2] => { results := [.lit (.bool true)], args := [d1, d2] }
  | _ => none }
def profilesNilRow : OpenClaim := { program := "ytpjfheadolphgaagreat", sum := "915296a023f2254da732fe298f1b1aa6724bc2a3eb85424d1827d07bf4dabb87", func := "chandlery/chandlerylaw25.ProfilesNil", spec := "profilesNil", inPlace := ["internal/bytealg.IndexByteString", "internal/bytealg.IndexString", "slices.overlaps[chandlery/api.Pair]", "slices.overlaps[string]", "slices.overlaps[int]"], unfollowed := true, recurses := true, named := ["internal/bytealg.MaxLen"], apart := false }
def ProfilesNilSaid : Prop := profilesNilRow.holds Tryz.pinned (OpenSpec.ofChange profilesNilSpec)

/-- ITS FALSE NEIGHBOUR: 'it returns false'. Refute it at one input. -/
def profilesNilWrong : ChangeSpec := { name := "profilesNil", fn := fun _ => fun
  | [d1, d2] => { results := [.lit (.bool false)], args := [d1, d2] }
  | _ => none }
def ProfilesNilWrongFalsely : Prop := profilesNilRow.holds Tryz.pinned (OpenSpec.ofChange profilesNilWrong)

/- THE SECOND FORM. 'bulk': how many values and letters a reading holds, each counted each time it is reached (what is shared counts as often as it is met; a slice's spare places count too). A statement '..UptoSaid' is the law's where the arguments, and the package variables that the reading takes, are together of bulk at most 1048576: NARROWER than '..Said'. Prove '..Said' where nothing that the law and all that it calls make is longer than what came in: it says more and counts as full. Else prove '..UptoSaid'. A law counts once. -/
mutual
def uptoBulk {H : Type} : DataW H → Nat
  | .lit (.string bytes) => bytes.length + 1
  | .lit _ => 1
  | .nil => 1
  | .ptr d => uptoBulk d + 1
  | .slice elems spare => uptoBulkAll elems + uptoBulkAll spare + 1
  | .agg parts => uptoBulkAll parts + 1
  | .iface _ d => uptoBulk d + 1
  | .map entries => uptoBulkEntries entries + 1
  | .held _ => 1
def uptoBulkAll {H : Type} : List (DataW H) → Nat
  | [] => 0
  | d :: r => uptoBulk d + uptoBulkAll r
def uptoBulkEntries {H : Type} : List (Lit × DataW H) → Nat
  | [] => 0
  | x :: r => uptoBulkEntry x + uptoBulkEntries r
def uptoBulkEntry {H : Type} : Lit × DataW H → Nat
  | (.string bytes, d) => bytes.length + uptoBulk d + 1
  | (_, d) => uptoBulk d + 1
 end
def uptoSmall : (H : Type) → List (DataW H) → Bool := fun _ ds => decide (uptoBulkAll ds ≤ 1048576)
def OpenSpec.upto (s : _root_.Go.ChangeSpec) : _root_.Go.OpenSpec := { _root_.Go.OpenSpec.ofChange s with cond := some uptoSmall }

/-- 'chandlerylaw15.FsysDoes', WHERE WHAT IT READS IS OF BULK AT MOST 1048576: true; the input reads as it did. -/
def fsysDoesUptoRow : OpenClaim := { program := "ytpjfheadolphgaagreat", sum := "915296a023f2254da732fe298f1b1aa6724bc2a3eb85424d1827d07bf4dabb87", func := "chandlery/chandlerylaw15.FsysDoes", spec := "fsysDoes", inPlace := ["internal/bytealg.IndexByteString", "internal/bytealg.IndexString", "slices.overlaps[chandlery/api.Pair]", "slices.overlaps[string]", "slices.overlaps[int]"], unfollowed := true, recurses := true, named := ["internal/bytealg.MaxLen"], apart := false, narrowed := true }
def FsysDoesUptoSaid : Prop := fsysDoesUptoRow.holds Tryz.pinned (OpenSpec.upto fsysDoesSpec)

/-- 'chandlerylaw15.FsysStays', WHERE WHAT IT READS IS OF BULK AT MOST 1048576: true; the input reads as it did. -/
def fsysStaysUptoRow : OpenClaim := { program := "ytpjfheadolphgaagreat", sum := "915296a023f2254da732fe298f1b1aa6724bc2a3eb85424d1827d07bf4dabb87", func := "chandlery/chandlerylaw15.FsysStays", spec := "fsysStays", inPlace := ["internal/bytealg.IndexByteString", "internal/bytealg.IndexString", "slices.overlaps[chandlery/api.Pair]", "slices.overlaps[string]", "slices.overlaps[int]"], unfollowed := true, recurses := true, named := ["internal/bytealg.MaxLen"], apart := false, narrowed := true }
def FsysStaysUptoSaid : Prop := fsysStaysUptoRow.holds Tryz.pinned (OpenSpec.upto fsysStaysSpec)

/-- 'chandlerylaw15.FsysMoves', WHERE WHAT IT READS IS OF BULK AT MOST 1048576: true; the input reads as it did. -/
def fsysMovesUptoRow : OpenClaim := { program := "ytpjfheadolphgaagreat", sum := "915296a023f2254da732fe298f1b1aa6724bc2a3eb85424d1827d07bf4dabb87", func := "chandlery/chandlerylaw15.FsysMoves", spec := "fsysMoves", inPlace := ["internal/bytealg.IndexByteString", "internal/bytealg.IndexString", "slices.overlaps[chandlery/api.Pair]", "slices.overlaps[string]", "slices.overlaps[int]"], unfollowed := true, recurses := true, named := ["internal/bytealg.MaxLen"], apart := false, narrowed := true }
def FsysMovesUptoSaid : Prop := fsysMovesUptoRow.holds Tryz.pinned (OpenSpec.upto fsysMovesSpec)

/-- 'chandlerylaw15.FsysLinks', WHERE WHAT IT READS IS OF BULK AT MOST 1048576: true; the input reads as it did. -/
def fsysLinksUptoRow : OpenClaim := { program := "ytpjfheadolphgaagreat", sum := "915296a023f2254da732fe298f1b1aa6724bc2a3eb85424d1827d07bf4dabb87", func := "chandlery/chandlerylaw15.FsysLinks", spec := "fsysLinks", inPlace := ["internal/bytealg.IndexByteString", "internal/bytealg.IndexString", "slices.overlaps[chandlery/api.Pair]", "slices.overlaps[string]", "slices.overlaps[int]"], unfollowed := true, recurses := true, named := ["internal/bytealg.MaxLen"], apart := false, narrowed := true }
def FsysLinksUptoSaid : Prop := fsysLinksUptoRow.holds Tryz.pinned (OpenSpec.upto fsysLinksSpec)

/-- 'chandlerylaw23.DbCloses', WHERE WHAT IT READS IS OF BULK AT MOST 1048576: true; the input reads as it did. -/
def dbClosesUptoRow : OpenClaim := { program := "ytpjfheadolphgaagreat", sum := "915296a023f2254da732fe298f1b1aa6724bc2a3eb85424d1827d07bf4dabb87", func := "chandlery/chandlerylaw23.DbCloses", spec := "dbCloses", inPlace := ["internal/bytealg.IndexByteString", "internal/bytealg.IndexString", "slices.overlaps[chandlery/api.Pair]", "slices.overlaps[string]", "slices.overlaps[int]"], unfollowed := true, recurses := true, named := ["internal/bytealg.MaxLen"], apart := false, narrowed := true }
def DbClosesUptoSaid : Prop := dbClosesUptoRow.holds Tryz.pinned (OpenSpec.upto dbClosesSpec)

/-- 'chandlerylaw23.DbDoes', WHERE WHAT IT READS IS OF BULK AT MOST 1048576: true; the input reads as it did. -/
def dbDoesUptoRow : OpenClaim := { program := "ytpjfheadolphgaagreat", sum := "915296a023f2254da732fe298f1b1aa6724bc2a3eb85424d1827d07bf4dabb87", func := "chandlery/chandlerylaw23.DbDoes", spec := "dbDoes", inPlace := ["internal/bytealg.IndexByteString", "internal/bytealg.IndexString", "slices.overlaps[chandlery/api.Pair]", "slices.overlaps[string]", "slices.overlaps[int]"], unfollowed := true, recurses := true, named := ["internal/bytealg.MaxLen"], apart := false, narrowed := true }
def DbDoesUptoSaid : Prop := dbDoesUptoRow.holds Tryz.pinned (OpenSpec.upto dbDoesSpec)

/-- 'chandlerylaw15.FsysChecks', WHERE WHAT IT READS IS OF BULK AT MOST 1048576: true; the input reads as it did. -/
def fsysChecksUptoRow : OpenClaim := { program := "ytpjfheadolphgaagreat", sum := "915296a023f2254da732fe298f1b1aa6724bc2a3eb85424d1827d07bf4dabb87", func := "chandlery/chandlerylaw15.FsysChecks", spec := "fsysChecks", inPlace := ["internal/bytealg.IndexByteString", "internal/bytealg.IndexString", "slices.overlaps[chandlery/api.Pair]", "slices.overlaps[string]", "slices.overlaps[int]"], unfollowed := true, recurses := true, named := ["internal/bytealg.MaxLen"], apart := false, narrowed := true }
def FsysChecksUptoSaid : Prop := fsysChecksUptoRow.holds Tryz.pinned (OpenSpec.upto fsysChecksSpec)

/-- 'chandlerylaw25.ProfilesHold', WHERE WHAT IT READS IS OF BULK AT MOST 1048576: true; the input reads as it did. -/
def profilesHoldUptoRow : OpenClaim := { program := "ytpjfheadolphgaagreat", sum := "915296a023f2254da732fe298f1b1aa6724bc2a3eb85424d1827d07bf4dabb87", func := "chandlery/chandlerylaw25.ProfilesHold", spec := "profilesHold", inPlace := ["internal/bytealg.IndexByteString", "internal/bytealg.IndexString", "slices.overlaps[chandlery/api.Pair]", "slices.overlaps[string]", "slices.overlaps[int]"], unfollowed := true, recurses := true, named := ["internal/bytealg.MaxLen"], apart := false, narrowed := true }
def ProfilesHoldUptoSaid : Prop := profilesHoldUptoRow.holds Tryz.pinned (OpenSpec.upto profilesHoldSpec)

/-- 'chandlerylaw25.ProfilesRise', WHERE WHAT IT READS IS OF BULK AT MOST 1048576: true; the input reads as it did. -/
def profilesRiseUptoRow : OpenClaim := { program := "ytpjfheadolphgaagreat", sum := "915296a023f2254da732fe298f1b1aa6724bc2a3eb85424d1827d07bf4dabb87", func := "chandlery/chandlerylaw25.ProfilesRise", spec := "profilesRise", inPlace := ["internal/bytealg.IndexByteString", "internal/bytealg.IndexString", "slices.overlaps[chandlery/api.Pair]", "slices.overlaps[string]", "slices.overlaps[int]"], unfollowed := true, recurses := true, named := ["internal/bytealg.MaxLen"], apart := false, narrowed := true }
def ProfilesRiseUptoSaid : Prop := profilesRiseUptoRow.holds Tryz.pinned (OpenSpec.upto profilesRiseSpec)

/-- 'chandlerylaw23.DbEnds', WHERE WHAT IT READS IS OF BULK AT MOST 1048576: true; the input reads as it did. -/
def dbEndsUptoRow : OpenClaim := { program := "ytpjfheadolphgaagreat", sum := "915296a023f2254da732fe298f1b1aa6724bc2a3eb85424d1827d07bf4dabb87", func := "chandlery/chandlerylaw23.DbEnds", spec := "dbEnds", inPlace := ["internal/bytealg.IndexByteString", "internal/bytealg.IndexString", "slices.overlaps[chandlery/api.Pair]", "slices.overlaps[string]", "slices.overlaps[int]"], unfollowed := true, recurses := true, named := ["internal/bytealg.MaxLen"], apart := false, narrowed := true }
def DbEndsUptoSaid : Prop := dbEndsUptoRow.holds Tryz.pinned (OpenSpec.upto dbEndsSpec)

/-- 'chandlerylaw25.ProfilesDo', WHERE WHAT IT READS IS OF BULK AT MOST 1048576: true; the input reads as it did. -/
def profilesDoUptoRow : OpenClaim := { program := "ytpjfheadolphgaagreat", sum := "915296a023f2254da732fe298f1b1aa6724bc2a3eb85424d1827d07bf4dabb87", func := "chandlery/chandlerylaw25.ProfilesDo", spec := "profilesDo", inPlace := ["internal/bytealg.IndexByteString", "internal/bytealg.IndexString", "slices.overlaps[chandlery/api.Pair]", "slices.overlaps[string]", "slices.overlaps[int]"], unfollowed := true, recurses := true, named := ["internal/bytealg.MaxLen"], apart := false, narrowed := true }
def ProfilesDoUptoSaid : Prop := profilesDoUptoRow.holds Tryz.pinned (OpenSpec.upto profilesDoSpec)

/-- 'chandlerylaw25.ProfilesNil', WHERE WHAT IT READS IS OF BULK AT MOST 1048576: true; the input reads as it did. -/
def profilesNilUptoRow : OpenClaim := { program := "ytpjfheadolphgaagreat", sum := "915296a023f2254da732fe298f1b1aa6724bc2a3eb85424d1827d07bf4dabb87", func := "chandlery/chandlerylaw25.ProfilesNil", spec := "profilesNil", inPlace := ["internal/bytealg.IndexByteString", "internal/bytealg.IndexString", "slices.overlaps[chandlery/api.Pair]", "slices.overlaps[string]", "slices.overlaps[int]"], unfollowed := true, recurses := true, named := ["internal/bytealg.MaxLen"], apart := false, narrowed := true }
def ProfilesNilUptoSaid : Prop := profilesNilUptoRow.holds Tryz.pinned (OpenSpec.upto profilesNilSpec)

end Rows
end Go.Proofs.YtpjfheadolphgaaGreat
