/-
  No cell of these rows narrows 'for every input' (looked for: loops, veiled, ifaces, maps, wideKeys, modest, calm, conditions, laid).
  DERIVED. THE GIVEN ROWS OF THIS SEAT. 5 by the template 'for every input the law returns true; each argument reads behind the call as it read before'; 0 by the template 'total and deterministic' (their statements: YtghpiegcmakggaaTotals.lean).
  GIVEN WITH THE SEED: the statements are not yours to turn. If you find one false, say at which input.
  Laid BY PROGRAM, IN A SANDBOX (cutbox-rows.mjs): the forced cells as the released guide's own fill.sh prints them over the translation 97a511038b6442e3… (all of the seat's roots in one cut). By AI agents, Wed Nov 11 2026. No macro, syntax, notation, axiom, sorry.
-/
import Derived.Test.YtghpiegcmakggaaChecked
import GoSem.Claim
import GoSem.ClaimJoined
import GoSem.ClaimMapViews
import Derived.JoinedTies
import Derived.KernelRfl
namespace Go.Proofs.Ytghpiegcmakggaa
/- THE CELL 'sum', in the pinned program and in every row, IS THE sha256 OF THE DUMP (.gsa) THAT YtghpiegcmakggaaProg.lean LOADS. Nothing in Lean hashes anything: it is a label: what it is worth is what the hold of that sum in a sandbox is worth. -/
noncomputable def Try.pinned : Pinned := { name := "ytghpiegcmakggaa", sum := "97a511038b6442e3d3390a16bfebb5030a925744e77e15dc23dcf53e9151543d", checked := Try.checked }
namespace Rows
def none {H : Type} : Left H := { results := [], args := [] }

/-- 'coxswainlaw05.HeapSorts': WHATEVER THE INPUT: true; the input reads as it did. -/
def heapSortsSpec : ChangeSpec := { name := "heapSorts", fn := fun _ => fun
  | [d] => { results := [.lit (.bool true)], args := [d] }
  | _ => none }
def heapSortsRow : OpenClaim := { program := "ytghpiegcmakggaa", sum := "97a511038b6442e3d3390a16bfebb5030a925744e77e15dc23dcf53e9151543d", func := "coxswain/coxswainlaw05.HeapSorts", spec := "heapSorts", unfollowed := true, recurses := true, apart := false }
def HeapSortsSaid : Prop := heapSortsRow.holds Try.pinned (OpenSpec.ofChange heapSortsSpec)

/-- ITS FALSE NEIGHBOUR: 'it returns false'. Refute it at one input. -/
def heapSortsWrong : ChangeSpec := { name := "heapSorts", fn := fun _ => fun
  | [d] => { results := [.lit (.bool false)], args := [d] }
  | _ => none }
def HeapSortsWrongFalsely : Prop := heapSortsRow.holds Try.pinned (OpenSpec.ofChange heapSortsWrong)

/-- 'coxswainlaw05.HeapBoxes': WHATEVER THE INPUT: true; the input reads as it did. -/
def heapBoxesSpec : ChangeSpec := { name := "heapBoxes", fn := fun _ => fun
  | [d1, d2] => { results := [.lit (.bool true)], args := [d1, d2] }
  | _ => none }
def heapBoxesRow : OpenClaim := { program := "ytghpiegcmakggaa", sum := "97a511038b6442e3d3390a16bfebb5030a925744e77e15dc23dcf53e9151543d", func := "coxswain/coxswainlaw05.HeapBoxes", spec := "heapBoxes", unfollowed := true, recurses := true, apart := false }
def HeapBoxesSaid : Prop := heapBoxesRow.holds Try.pinned (OpenSpec.ofChange heapBoxesSpec)

/-- ITS FALSE NEIGHBOUR: 'it returns false'. Refute it at one input. -/
def heapBoxesWrong : ChangeSpec := { name := "heapBoxes", fn := fun _ => fun
  | [d1, d2] => { results := [.lit (.bool false)], args := [d1, d2] }
  | _ => none }
def HeapBoxesWrongFalsely : Prop := heapBoxesRow.holds Try.pinned (OpenSpec.ofChange heapBoxesWrong)

/-- 'coxswainlaw05.HeapPeeks': WHATEVER THE INPUT: true; the input reads as it did. -/
def heapPeeksSpec : ChangeSpec := { name := "heapPeeks", fn := fun _ => fun
  | [d] => { results := [.lit (.bool true)], args := [d] }
  | _ => none }
def heapPeeksRow : OpenClaim := { program := "ytghpiegcmakggaa", sum := "97a511038b6442e3d3390a16bfebb5030a925744e77e15dc23dcf53e9151543d", func := "coxswain/coxswainlaw05.HeapPeeks", spec := "heapPeeks", unfollowed := true, recurses := true, apart := false }
def HeapPeeksSaid : Prop := heapPeeksRow.holds Try.pinned (OpenSpec.ofChange heapPeeksSpec)

/-- ITS FALSE NEIGHBOUR: 'it returns false'. Refute it at one input. -/
def heapPeeksWrong : ChangeSpec := { name := "heapPeeks", fn := fun _ => fun
  | [d] => { results := [.lit (.bool false)], args := [d] }
  | _ => none }
def HeapPeeksWrongFalsely : Prop := heapPeeksRow.holds Try.pinned (OpenSpec.ofChange heapPeeksWrong)

/-- 'coxswainlaw05.HeapPlays': WHATEVER THE INPUT: true; the input reads as it did. -/
def heapPlaysSpec : ChangeSpec := { name := "heapPlays", fn := fun _ => fun
  | [d] => { results := [.lit (.bool true)], args := [d] }
  | _ => none }
def heapPlaysRow : OpenClaim := { program := "ytghpiegcmakggaa", sum := "97a511038b6442e3d3390a16bfebb5030a925744e77e15dc23dcf53e9151543d", func := "coxswain/coxswainlaw05.HeapPlays", spec := "heapPlays", unfollowed := true, recurses := true, apart := false }
def HeapPlaysSaid : Prop := heapPlaysRow.holds Try.pinned (OpenSpec.ofChange heapPlaysSpec)

/-- ITS FALSE NEIGHBOUR: 'it returns false'. Refute it at one input. -/
def heapPlaysWrong : ChangeSpec := { name := "heapPlays", fn := fun _ => fun
  | [d] => { results := [.lit (.bool false)], args := [d] }
  | _ => none }
def HeapPlaysWrongFalsely : Prop := heapPlaysRow.holds Try.pinned (OpenSpec.ofChange heapPlaysWrong)

/-- 'coxswainlaw05.HeapRest': WHATEVER THE INPUT: true; the input reads as it did. -/
def heapRestSpec : ChangeSpec := { name := "heapRest", fn := fun _ => fun
  | [d1, d2] => { results := [.lit (.bool true)], args := [d1, d2] }
  | _ => none }
def heapRestRow : OpenClaim := { program := "ytghpiegcmakggaa", sum := "97a511038b6442e3d3390a16bfebb5030a925744e77e15dc23dcf53e9151543d", func := "coxswain/coxswainlaw05.HeapRest", spec := "heapRest", unfollowed := true, recurses := true, apart := false }
def HeapRestSaid : Prop := heapRestRow.holds Try.pinned (OpenSpec.ofChange heapRestSpec)

/-- ITS FALSE NEIGHBOUR: 'it returns false'. Refute it at one input. -/
def heapRestWrong : ChangeSpec := { name := "heapRest", fn := fun _ => fun
  | [d1, d2] => { results := [.lit (.bool false)], args := [d1, d2] }
  | _ => none }
def HeapRestWrongFalsely : Prop := heapRestRow.holds Try.pinned (OpenSpec.ofChange heapRestWrong)

/- THE SECOND FORM. 'bulk': how many values and letters a reading holds, each counted each time it is reached (what is shared counts as often as it is met; a slice's spare places count too). A statement '..UptoSaid' is the law's where the arguments, and the package variables that the reading takes, are together of bulk at most 1048576: NARROWER than '..Said'. Prove '..Said' where nothing that the law and all that it calls make is longer than what came in: it says more and counts as full. Else prove '..UptoSaid'. A law counts once. -/
mutual
def uptoBulk {H : Type} : DataW H → Nat
  | .lit (.string bytes) => bytes.length + 1
  | .lit _ => 1
  | .nil => 1
  | .ptr d => uptoBulk d + 1
  | .slice elems spare => uptoBulkAll elems + uptoBulkAll spare + 1
  | .agg parts => uptoBulkAll parts + 1
  | .iface _ d => uptoBulk d + 1
  | .map entries => uptoBulkEntries entries + 1
  | .held _ => 1
def uptoBulkAll {H : Type} : List (DataW H) → Nat
  | [] => 0
  | d :: r => uptoBulk d + uptoBulkAll r
def uptoBulkEntries {H : Type} : List (Lit × DataW H) → Nat
  | [] => 0
  | x :: r => uptoBulkEntry x + uptoBulkEntries r
def uptoBulkEntry {H : Type} : Lit × DataW H → Nat
  | (.string bytes, d) => bytes.length + uptoBulk d + 1
  | (_, d) => uptoBulk d + 1
 end
def uptoSmall : (H : Type) → List (DataW H) → Bool := fun _ ds => decide (uptoBulkAll ds ≤ 1048576)
def OpenSpec.upto (s : _root_.Go.ChangeSpec) : _root_.Go.OpenSpec := { _root_.Go.OpenSpec.ofChange s with cond := some uptoSmall }

/-- 'coxswainlaw05.HeapSorts', WHERE WHAT IT READS IS OF BULK AT MOST 1048576: true; the input reads as it did. -/
def heapSortsUptoRow : OpenClaim := { program := "ytghpiegcmakggaa", sum := "97a511038b6442e3d3390a16bfebb5030a925744e77e15dc23dcf53e9151543d", func := "coxswain/coxswainlaw05.HeapSorts", spec := "heapSorts", unfollowed := true, recurses := true, apart := false, narrowed := true }
def HeapSortsUptoSaid : Prop := heapSortsUptoRow.holds Try.pinned (OpenSpec.upto heapSortsSpec)

/-- 'coxswainlaw05.HeapBoxes', WHERE WHAT IT READS IS OF BULK AT MOST 1048576: true; the input reads as it did. -/
def heapBoxesUptoRow : OpenClaim := { program := "ytghpiegcmakggaa", sum := "97a511038b6442e3d3390a16bfebb5030a925744e77e15dc23dcf53e9151543d", func := "coxswain/coxswainlaw05.HeapBoxes", spec := "heapBoxes", unfollowed := true, recurses := true, apart := false, narrowed := true }
def HeapBoxesUptoSaid : Prop := heapBoxesUptoRow.holds Try.pinned (OpenSpec.upto heapBoxesSpec)

/-- 'coxswainlaw05.HeapPeeks', WHERE WHAT IT READS IS OF BULK AT MOST 1048576: true; the input reads as it did. -/
def heapPeeksUptoRow : OpenClaim := { program := "ytghpiegcmakggaa", sum := "97a511038b6442e3d3390a16bfebb5030a925744e77e15dc23dcf53e9151543d", func := "coxswain/coxswainlaw05.HeapPeeks", spec := "heapPeeks", unfollowed := true, recurses := true, apart := false, narrowed := true }
def HeapPeeksUptoSaid : Prop := heapPeeksUptoRow.holds Try.pinned (OpenSpec.upto heapPeeksSpec)

/-- 'coxswainlaw05.HeapPlays', WHERE WHAT IT READS IS OF BULK AT MOST 1048576: true; the input reads as it did. -/
def heapPlaysUptoRow : OpenClaim := { program := "ytghpiegcmakggaa", sum := "97a511038b6442e3d3390a16bfebb5030a925744e77e15dc23dcf53e9151543d", func := "coxswain/coxswainlaw05.HeapPlays", spec := "heapPlays", unfollowed := true, recurses := true, apart := false, narrowed := true }
def HeapPlaysUptoSaid : Prop := heapPlaysUptoRow.holds Try.pinned (OpenSpec.upto heapPlaysSpec)

/-- 'coxswainlaw05.HeapRest', WHERE WHAT IT READS IS OF BULK AT MOST 1048576: true; the input reads as it did. -/
def heapRestUptoRow : OpenClaim := { program := "ytghpiegcmakggaa", sum := "97a511038b6442e3d3390a16bfebb5030a925744e77e15dc23dcf53e9151543d", func := "coxswain/coxswainlaw05.HeapRest", spec := "heapRest", unfollowed := true, recurses := true, apart := false, narrowed := true }
def HeapRestUptoSaid : Prop := heapRestUptoRow.holds Try.pinned (OpenSpec.upto heapRestSpec)

end Rows
end Go.Proofs.Ytghpiegcmakggaa
