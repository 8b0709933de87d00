/-
  No cell of these rows narrows 'for every input' (looked for: loops, veiled, ifaces, maps, wideKeys, modest, calm, conditions, laid).
  DERIVED. THE GIVEN ROWS OF THIS SEAT. 8 by the template 'for every input the law returns true; each argument reads behind the call as it read before'; 0 by the template 'total and deterministic' (their statements: YtdipjakblaeekaaGreatTotals.lean).
  GIVEN WITH THE SEED: the statements are not yours to turn. If you find one false, say at which input.
  Laid BY PROGRAM, IN A SANDBOX (cutbox-rows.mjs): the forced cells as the released guide's own fill.sh prints them over the translation 5b8d931e6118a38c… (all of the seat's roots in one cut). By AI agents, Wed Nov 11 2026. No macro, syntax, notation, axiom, sorry.
-/
import Derived.Test.YtdipjakblaeekaaGreatChecked
import GoSem.Claim
import GoSem.ClaimJoined
import GoSem.ClaimMapViews
import Derived.JoinedTies
import Derived.KernelRfl
namespace Go.Proofs.YtdipjakblaeekaaGreat
/- THE CELL 'sum', in the pinned program and in every row, IS THE sha256 OF THE DUMP (.gsa) THAT YtdipjakblaeekaaGreatProg.lean LOADS. Nothing in Lean hashes anything: it is a label: what it is worth is what the hold of that sum in a sandbox is worth. -/
noncomputable def Tryz.pinned : Pinned := { name := "ytdipjakblaeekaagreat", sum := "5b8d931e6118a38cfa5fe0b55dd3abac0e223e1d7a91f51332429cbd4b2e4e1b", checked := Tryz.checked }
namespace Rows
def none {H : Type} : Left H := { results := [], args := [] }

/-- 'chandlerylaw13.FilesDoes': WHATEVER THE INPUT: true; the input reads as it did. -/
def filesDoesSpec : ChangeSpec := { name := "filesDoes", fn := fun _ => fun
  | [d1, d2] => { results := [.lit (.bool true)], args := [d1, d2] }
  | _ => none }
def filesDoesRow : OpenClaim := { program := "ytdipjakblaeekaagreat", sum := "5b8d931e6118a38cfa5fe0b55dd3abac0e223e1d7a91f51332429cbd4b2e4e1b", func := "chandlery/chandlerylaw13.FilesDoes", spec := "filesDoes", inPlace := ["internal/bytealg.IndexByteString", "internal/bytealg.IndexString", "slices.overlaps[chandlery/api.Pair]", "slices.overlaps[string]", "slices.overlaps[int]"], unfollowed := true, recurses := true, named := ["internal/bytealg.MaxLen"], apart := false }
def FilesDoesSaid : Prop := filesDoesRow.holds Tryz.pinned (OpenSpec.ofChange filesDoesSpec)

/-- ITS FALSE NEIGHBOUR: 'it returns false'. Refute it at one input. -/
def filesDoesWrong : ChangeSpec := { name := "filesDoes", fn := fun _ => fun
  | [d1, d2] => { results := [.lit (.bool false)], args := [d1, d2] }
  | _ => none }
def FilesDoesWrongFalsely : Prop := filesDoesRow.holds Tryz.pinned (OpenSpec.ofChange filesDoesWrong)

/-- 'chandlerylaw13.FilesOwn': WHATEVER THE INPUT: true; the input reads as it did. -/
def filesOwnSpec : ChangeSpec := { name := "filesOwn", fn := fun _ => fun
  | [d1, d2, d3, d4, d5] => { results := [.lit (.bool true)], args := [d1, d2, d3, d4, d5] }
  | _ => none }
def filesOwnRow : OpenClaim := { program := "ytdipjakblaeekaagreat", sum := "5b8d931e6118a38cfa5fe0b55dd3abac0e223e1d7a91f51332429cbd4b2e4e1b", func := "chandlery/chandlerylaw13.FilesOwn", spec := "filesOwn", inPlace := ["internal/bytealg.IndexByteString", "internal/bytealg.IndexString", "slices.overlaps[chandlery/api.Pair]", "slices.overlaps[string]", "slices.overlaps[int]"], unfollowed := true, recurses := true, named := ["internal/bytealg.MaxLen"], apart := false }
def FilesOwnSaid : Prop := filesOwnRow.holds Tryz.pinned (OpenSpec.ofChange filesOwnSpec)

/-- ITS FALSE NEIGHBOUR: 'it returns false'. Refute it at one input. -/
def filesOwnWrong : ChangeSpec := { name := "filesOwn", fn := fun _ => fun
  | [d1, d2, d3, d4, d5] => { results := [.lit (.bool false)], args := [d1, d2, d3, d4, d5] }
  | _ => none }
def FilesOwnWrongFalsely : Prop := filesOwnRow.holds Tryz.pinned (OpenSpec.ofChange filesOwnWrong)

/-- 'chandlerylaw13.FilesAgain': WHATEVER THE INPUT: true; the input reads as it did. -/
def filesAgainSpec : ChangeSpec := { name := "filesAgain", fn := fun _ => fun
  | [d1, d2, d3] => { results := [.lit (.bool true)], args := [d1, d2, d3] }
  | _ => none }
def filesAgainRow : OpenClaim := { program := "ytdipjakblaeekaagreat", sum := "5b8d931e6118a38cfa5fe0b55dd3abac0e223e1d7a91f51332429cbd4b2e4e1b", func := "chandlery/chandlerylaw13.FilesAgain", spec := "filesAgain", inPlace := ["internal/bytealg.IndexByteString", "internal/bytealg.IndexString", "slices.overlaps[chandlery/api.Pair]", "slices.overlaps[string]", "slices.overlaps[int]"], unfollowed := true, recurses := true, named := ["internal/bytealg.MaxLen"], apart := false }
def FilesAgainSaid : Prop := filesAgainRow.holds Tryz.pinned (OpenSpec.ofChange filesAgainSpec)

/-- ITS FALSE NEIGHBOUR: 'it returns false'. Refute it at one input. -/
def filesAgainWrong : ChangeSpec := { name := "filesAgain", fn := fun _ => fun
  | [d1, d2, d3] => { results := [.lit (.bool false)], args := [d1, d2, d3] }
  | _ => none }
def FilesAgainWrongFalsely : Prop := filesAgainRow.holds Tryz.pinned (OpenSpec.ofChange filesAgainWrong)

/-- 'chandlerylaw13.FilesChunks': WHATEVER THE INPUT: true; the input reads as it did. -/
def filesChunksSpec : ChangeSpec := { name := "filesChunks", fn := fun _ => fun
  | [d1, d2, d3] => { results := [.lit (.bool true)], args := [d1, d2, d3] }
  | _ => none }
def filesChunksRow : OpenClaim := { program := "ytdipjakblaeekaagreat", sum := "5b8d931e6118a38cfa5fe0b55dd3abac0e223e1d7a91f51332429cbd4b2e4e1b", func := "chandlery/chandlerylaw13.FilesChunks", spec := "filesChunks", inPlace := ["internal/bytealg.IndexByteString", "internal/bytealg.IndexString", "slices.overlaps[chandlery/api.Pair]", "slices.overlaps[string]", "slices.overlaps[int]"], unfollowed := true, recurses := true, named := ["internal/bytealg.MaxLen"], apart := false }
def FilesChunksSaid : Prop := filesChunksRow.holds Tryz.pinned (OpenSpec.ofChange filesChunksSpec)

/-- ITS FALSE NEIGHBOUR: 'it returns false'. Refute it at one input. -/
def filesChunksWrong : ChangeSpec := { name := "filesChunks", fn := fun _ => fun
  | [d1, d2, d3] => { results := [.lit (.bool false)], args := [d1, d2, d3] }
  | _ => none }
def FilesChunksWrongFalsely : Prop := filesChunksRow.holds Tryz.pinned (OpenSpec.ofChange filesChunksWrong)

/-- 'chandlerylaw14.DirsHolds': WHATEVER THE INPUT: true; the input reads as it did. -/
def dirsHoldsSpec : ChangeSpec := { name := "dirsHolds", fn := fun _ => fun
  | [d] => { results := [.lit (.bool true)], args := [d] }
  | _ => none }
def dirsHoldsRow : OpenClaim := { program := "ytdipjakblaeekaagreat", sum := "5b8d931e6118a38cfa5fe0b55dd3abac0e223e1d7a91f51332429cbd4b2e4e1b", func := "chandlery/chandlerylaw14.DirsHolds", spec := "dirsHolds", inPlace := ["internal/bytealg.IndexByteString", "internal/bytealg.IndexString", "slices.overlaps[chandlery/api.Pair]", "slices.overlaps[string]", "slices.overlaps[int]"], unfollowed := true, recurses := true, named := ["internal/bytealg.MaxLen"], apart := false }
def DirsHoldsSaid : Prop := dirsHoldsRow.holds Tryz.pinned (OpenSpec.ofChange dirsHoldsSpec)

/-- ITS FALSE NEIGHBOUR: 'it returns false'. Refute it at one input. -/
def dirsHoldsWrong : ChangeSpec := { name := "dirsHolds", fn := fun _ => fun
  | [d] => { results := [.lit (.bool false)], args := [d] }
  | _ => none }
def DirsHoldsWrongFalsely : Prop := dirsHoldsRow.holds Tryz.pinned (OpenSpec.ofChange dirsHoldsWrong)

/-- 'chandlerylaw14.DirsMany': WHATEVER THE INPUT: true; the input reads as it did. -/
def dirsManySpec : ChangeSpec := { name := "dirsMany", fn := fun _ => fun
  | [d] => { results := [.lit (.bool true)], args := [d] }
  | _ => none }
def dirsManyRow : OpenClaim := { program := "ytdipjakblaeekaagreat", sum := "5b8d931e6118a38cfa5fe0b55dd3abac0e223e1d7a91f51332429cbd4b2e4e1b", func := "chandlery/chandlerylaw14.DirsMany", spec := "dirsMany", inPlace := ["internal/bytealg.IndexByteString", "internal/bytealg.IndexString", "slices.overlaps[chandlery/api.Pair]", "slices.overlaps[string]", "slices.overlaps[int]"], unfollowed := true, recurses := true, named := ["internal/bytealg.MaxLen"], apart := false }
def DirsManySaid : Prop := dirsManyRow.holds Tryz.pinned (OpenSpec.ofChange dirsManySpec)

/-- ITS FALSE NEIGHBOUR: 'it returns false'. Refute it at one input. -/
def dirsManyWrong : ChangeSpec := { name := "dirsMany", fn := fun _ => fun
  | [d] => { results := [.lit (.bool false)], args := [d] }
  | _ => none }
def DirsManyWrongFalsely : Prop := dirsManyRow.holds Tryz.pinned (OpenSpec.ofChange dirsManyWrong)

/-- 'chandlerylaw14.DirsForm': WHATEVER THE INPUT: true; the input reads as it did. -/
def dirsFormSpec : ChangeSpec := { name := "dirsForm", fn := fun _ => fun
  | [d1, d2, d3] => { results := [.lit (.bool true)], args := [d1, d2, d3] }
  | _ => none }
def dirsFormRow : OpenClaim := { program := "ytdipjakblaeekaagreat", sum := "5b8d931e6118a38cfa5fe0b55dd3abac0e223e1d7a91f51332429cbd4b2e4e1b", func := "chandlery/chandlerylaw14.DirsForm", spec := "dirsForm", inPlace := ["slices.overlaps[chandlery/api.Pair]", "slices.overlaps[string]", "slices.overlaps[int]", "internal/bytealg.IndexByteString", "internal/bytealg.IndexString"], unfollowed := true, recurses := true, named := ["internal/bytealg.MaxLen"], apart := false }
def DirsFormSaid : Prop := dirsFormRow.holds Tryz.pinned (OpenSpec.ofChange dirsFormSpec)

/-- ITS FALSE NEIGHBOUR: 'it returns false'. Refute it at one input. -/
def dirsFormWrong : ChangeSpec := { name := "dirsForm", fn := fun _ => fun
  | [d1, d2, d3] => { results := [.lit (.bool false)], args := [d1, d2, d3] }
  | _ => none }
def DirsFormWrongFalsely : Prop := dirsFormRow.holds Tryz.pinned (OpenSpec.ofChange dirsFormWrong)

/-- 'chandlerylaw14.DirsDoes': WHATEVER THE INPUT: true; the input reads as it did. -/
def dirsDoesSpec : ChangeSpec := { name := "dirsDoes", fn := fun _ => fun
  | [d] => { results := [.lit (.bool true)], args := [d] }
  | _ => none }
def dirsDoesRow : OpenClaim := { program := "ytdipjakblaeekaagreat", sum := "5b8d931e6118a38cfa5fe0b55dd3abac0e223e1d7a91f51332429cbd4b2e4e1b", func := "chandlery/chandlerylaw14.DirsDoes", spec := "dirsDoes", inPlace := ["internal/bytealg.IndexByteString", "internal/bytealg.IndexString", "slices.overlaps[chandlery/api.Pair]", "slices.overlaps[string]", "slices.overlaps[int]"], unfollowed := true, recurses := true, named := ["internal/bytealg.MaxLen"], apart := false }
def DirsDoesSaid : Prop := dirsDoesRow.holds Tryz.pinned (OpenSpec.ofChange dirsDoesSpec)

/-- ITS FALSE NEIGHBOUR: 'it returns false'. Refute it at one input. -/
def dirsDoesWrong : ChangeSpec := { name := "dirsDoes", fn := fun _ => fun
  | [d] => { results := [.lit (.bool false)], args := [d] }
  | _ => none }
def DirsDoesWrongFalsely : Prop := dirsDoesRow.holds Tryz.pinned (OpenSpec.ofChange dirsDoesWrong)

/- THE SECOND FORM. 'bulk': how many values and letters a reading holds, each counted each time it is reached (what is shared counts as often as it is met; a slice's spare places count too). A statement '..UptoSaid' is the law's where the arguments, and the package variables that the reading takes, are together of bulk at most 1048576: NARROWER than '..Said'. Prove '..Said' where nothing that the law and all that it calls make is longer than what came in: it says more and counts as full. Else prove '..UptoSaid'. A law counts once. -/
mutual
def uptoBulk {H : Type} : DataW H → Nat
  | .lit (.string bytes) => bytes.length + 1
  | .lit _ => 1
  | .nil => 1
  | .ptr d => uptoBulk d + 1
  | .slice elems spare => uptoBulkAll elems + uptoBulkAll spare + 1
  | .agg parts => uptoBulkAll parts + 1
  | .iface _ d => uptoBulk d + 1
  | .map entries => uptoBulkEntries entries + 1
  | .held _ => 1
def uptoBulkAll {H : Type} : List (DataW H) → Nat
  | [] => 0
  | d :: r => uptoBulk d + uptoBulkAll r
def uptoBulkEntries {H : Type} : List (Lit × DataW H) → Nat
  | [] => 0
  | x :: r => uptoBulkEntry x + uptoBulkEntries r
def uptoBulkEntry {H : Type} : Lit × DataW H → Nat
  | (.string bytes, d) => bytes.length + uptoBulk d + 1
  | (_, d) => uptoBulk d + 1
 end
def uptoSmall : (H : Type) → List (DataW H) → Bool := fun _ ds => decide (uptoBulkAll ds ≤ 1048576)
def OpenSpec.upto (s : _root_.Go.ChangeSpec) : _root_.Go.OpenSpec := { _root_.Go.OpenSpec.ofChange s with cond := some uptoSmall }

/-- 'chandlerylaw13.FilesDoes', WHERE WHAT IT READS IS OF BULK AT MOST 1048576: true; the input reads as it did. -/
def filesDoesUptoRow : OpenClaim := { program := "ytdipjakblaeekaagreat", sum := "5b8d931e6118a38cfa5fe0b55dd3abac0e223e1d7a91f51332429cbd4b2e4e1b", func := "chandlery/chandlerylaw13.FilesDoes", spec := "filesDoes", inPlace := ["internal/bytealg.IndexByteString", "internal/bytealg.IndexString", "slices.overlaps[chandlery/api.Pair]", "slices.overlaps[string]", "slices.overlaps[int]"], unfollowed := true, recurses := true, named := ["internal/bytealg.MaxLen"], apart := false, narrowed := true }
def FilesDoesUptoSaid : Prop := filesDoesUptoRow.holds Tryz.pinned (OpenSpec.upto filesDoesSpec)

/-- 'chandlerylaw13.FilesOwn', WHERE WHAT IT READS IS OF BULK AT MOST 1048576: true; the input reads as it did. -/
def filesOwnUptoRow : OpenClaim := { program := "ytdipjakblaeekaagreat", sum := "5b8d931e6118a38cfa5fe0b55dd3abac0e223e1d7a91f51332429cbd4b2e4e1b", func := "chandlery/chandlerylaw13.FilesOwn", spec := "filesOwn", inPlace := ["internal/bytealg.IndexByteString", "internal/bytealg.IndexString", "slices.overlaps[chandlery/api.Pair]", "slices.overlaps[string]", "slices.overlaps[int]"], unfollowed := true, recurses := true, named := ["internal/bytealg.MaxLen"], apart := false, narrowed := true }
def FilesOwnUptoSaid : Prop := filesOwnUptoRow.holds Tryz.pinned (OpenSpec.upto filesOwnSpec)

/-- 'chandlerylaw13.FilesAgain', WHERE WHAT IT READS IS OF BULK AT MOST 1048576: true; the input reads as it did. -/
def filesAgainUptoRow : OpenClaim := { program := "ytdipjakblaeekaagreat", sum := "5b8d931e6118a38cfa5fe0b55dd3abac0e223e1d7a91f51332429cbd4b2e4e1b", func := "chandlery/chandlerylaw13.FilesAgain", spec := "filesAgain", inPlace := ["internal/bytealg.IndexByteString", "internal/bytealg.IndexString", "slices.overlaps[chandlery/api.Pair]", "slices.overlaps[string]", "slices.overlaps[int]"], unfollowed := true, recurses := true, named := ["internal/bytealg.MaxLen"], apart := false, narrowed := true }
def FilesAgainUptoSaid : Prop := filesAgainUptoRow.holds Tryz.pinned (OpenSpec.upto filesAgainSpec)

/-- 'chandlerylaw13.FilesChunks', WHERE WHAT IT READS IS OF BULK AT MOST 1048576: true; the input reads as it did. -/
def filesChunksUptoRow : OpenClaim := { program := "ytdipjakblaeekaagreat", sum := "5b8d931e6118a38cfa5fe0b55dd3abac0e223e1d7a91f51332429cbd4b2e4e1b", func := "chandlery/chandlerylaw13.FilesChunks", spec := "filesChunks", inPlace := ["internal/bytealg.IndexByteString", "internal/bytealg.IndexString", "slices.overlaps[chandlery/api.Pair]", "slices.overlaps[string]", "slices.overlaps[int]"], unfollowed := true, recurses := true, named := ["internal/bytealg.MaxLen"], apart := false, narrowed := true }
def FilesChunksUptoSaid : Prop := filesChunksUptoRow.holds Tryz.pinned (OpenSpec.upto filesChunksSpec)

/-- 'chandlerylaw14.DirsHolds', WHERE WHAT IT READS IS OF BULK AT MOST 1048576: true; the input reads as it did. -/
def dirsHoldsUptoRow : OpenClaim := { program := "ytdipjakblaeekaagreat", sum := "5b8d931e6118a38cfa5fe0b55dd3abac0e223e1d7a91f51332429cbd4b2e4e1b", func := "chandlery/chandlerylaw14.DirsHolds", spec := "dirsHolds", inPlace := ["internal/bytealg.IndexByteString", "internal/bytealg.IndexString", "slices.overlaps[chandlery/api.Pair]", "slices.overlaps[string]", "slices.overlaps[int]"], unfollowed := true, recurses := true, named := ["internal/bytealg.MaxLen"], apart := false, narrowed := true }
def DirsHoldsUptoSaid : Prop := dirsHoldsUptoRow.holds Tryz.pinned (OpenSpec.upto dirsHoldsSpec)

/-- 'chandlerylaw14.DirsMany', WHERE WHAT IT READS IS OF BULK AT MOST 1048576: true; the input reads as it did. -/
def dirsManyUptoRow : OpenClaim := { program := "ytdipjakblaeekaagreat", sum := "5b8d931e6118a38cfa5fe0b55dd3abac0e223e1d7a91f51332429cbd4b2e4e1b", func := "chandlery/chandlerylaw14.DirsMany", spec := "dirsMany", inPlace := ["internal/bytealg.IndexByteString", "internal/bytealg.IndexString", "slices.overlaps[chandlery/api.Pair]", "slices.overlaps[string]", "slices.overlaps[int]"], unfollowed := true, recurses := true, named := ["internal/bytealg.MaxLen"], apart := false, narrowed := true }
def DirsManyUptoSaid : Prop := dirsManyUptoRow.holds Tryz.pinned (OpenSpec.upto dirsManySpec)

/-- 'chandlerylaw14.DirsForm', WHERE WHAT IT READS IS OF BULK AT MOST 1048576: true; the input reads as it did. -/
def dirsFormUptoRow : OpenClaim := { program := "ytdipjakblaeekaagreat", sum := "5b8d931e6118a38cfa5fe0b55dd3abac0e223e1d7a91f51332429cbd4b2e4e1b", func := "chandlery/chandlerylaw14.DirsForm", spec := "dirsForm", inPlace := ["slices.overlaps[chandlery/api.Pair]", "slices.overlaps[string]", "slices.overlaps[int]", "internal/bytealg.IndexByteString", "internal/bytealg.IndexString"], unfollowed := true, recurses := true, named := ["internal/bytealg.MaxLen"], apart := false, narrowed := true }
def DirsFormUptoSaid : Prop := dirsFormUptoRow.holds Tryz.pinned (OpenSpec.upto dirsFormSpec)

/-- 'chandlerylaw14.DirsDoes', WHERE WHAT IT READS IS OF BULK AT MOST 1048576: true; the input reads as it did. -/
def dirsDoesUptoRow : OpenClaim := { program := "ytdipjakblaeekaagreat", sum := "5b8d931e6118a38cfa5fe0b55dd3abac0e223e1d7a91f51332429cbd4b2e4e1b", func := "chandlery/chandlerylaw14.DirsDoes", spec := "dirsDoes", inPlace := ["internal/bytealg.IndexByteString", "internal/bytealg.IndexString", "slices.overlaps[chandlery/api.Pair]", "slices.overlaps[string]", "slices.overlaps[int]"], unfollowed := true, recurses := true, named := ["internal/bytealg.MaxLen"], apart := false, narrowed := true }
def DirsDoesUptoSaid : Prop := dirsDoesUptoRow.holds Tryz.pinned (OpenSpec.upto dirsDoesSpec)

end Rows
end Go.Proofs.YtdipjakblaeekaaGreat
