/-
  No cell of these rows narrows 'for every input' (looked for: loops, veiled, ifaces, maps, wideKeys, modest, calm, conditions, laid).
  DERIVED. THE GIVEN ROWS OF THIS SEAT. 10 by the template 'for every input the law returns true; each argument reads behind the call as it read before'; 0 by the template 'total and deterministic' (their statements: YtpoplipjombdbaaTotals.lean).
  GIVEN WITH THE SEED: the statements are not yours to turn. If you find one false, say at which input.
  Laid BY PROGRAM, IN A SANDBOX (cutbox-rows.mjs): the forced cells as the released guide's own fill.sh prints them over the translation eebd9faa49e02650… (all of the seat's roots in one cut). By AI agents, Wed Nov 11 2026. No macro, syntax, notation, axiom, sorry.
-/
import Derived.Test.YtpoplipjombdbaaChecked
import GoSem.Claim
import GoSem.ClaimJoined
import GoSem.ClaimMapViews
import Derived.JoinedTies
import Derived.KernelRfl
namespace Go.Proofs.Ytpoplipjombdbaa
/- THE CELL 'sum', in the pinned program and in every row, IS THE sha256 OF THE DUMP (.gsa) THAT YtpoplipjombdbaaProg.lean LOADS. Nothing in Lean hashes anything: it is a label: what it is worth is what the hold of that sum in a sandbox is worth. -/
noncomputable def Try.pinned : Pinned := { name := "ytpoplipjombdbaa", sum := "eebd9faa49e026500d714b35b03892847ffcdf51dba7d78abf2b75e83a405ffc", checked := Try.checked }
namespace Rows
def none {H : Type} : Left H := { results := [], args := [] }

/-- 'coxswainlaw01.CodecErrors': WHATEVER THE INPUT: true; the input reads as it did. -/
def codecErrorsSpec : ChangeSpec := { name := "codecErrors", fn := fun _ => fun
  | [d1, d2, d3, d4, d5] => { results := [.lit (.bool true)], args := [d1, d2, d3, d4, d5] }
  | _ => none }
def codecErrorsRow : OpenClaim := { program := "ytpoplipjombdbaa", sum := "eebd9faa49e026500d714b35b03892847ffcdf51dba7d78abf2b75e83a405ffc", func := "coxswain/coxswainlaw01.CodecErrors", spec := "codecErrors", unfollowed := true, recurses := true, apart := false }
def CodecErrorsSaid : Prop := codecErrorsRow.holds Try.pinned (OpenSpec.ofChange codecErrorsSpec)

/-- ITS FALSE NEIGHBOUR: 'it returns false'. Refute it at one input. -/
def codecErrorsWrong : ChangeSpec := { name := "codecErrors", fn := fun _ => fun
  | [d1, d2, d3, d4, d5] => { results := [.lit (.bool false)], args := [d1, d2, d3, d4, d5] }
  | _ => none }
def CodecErrorsWrongFalsely : Prop := codecErrorsRow.holds Try.pinned (OpenSpec.ofChange codecErrorsWrong)

/-- 'coxswainlaw01.CodecRow': WHATEVER THE INPUT: true; the input reads as it did. -/
def codecRowSpec : ChangeSpec := { name := "codecRow", fn := fun _ => fun
  | [d1, d2] => { results := [.lit (.bool true)], args := [d1, d2] }
  | _ => none }
def codecRowRow : OpenClaim := { program := "ytpoplipjombdbaa", sum := "eebd9faa49e026500d714b35b03892847ffcdf51dba7d78abf2b75e83a405ffc", func := "coxswain/coxswainlaw01.CodecRow", spec := "codecRow", unfollowed := true, recurses := true, apart := false }
def CodecRowSaid : Prop := codecRowRow.holds Try.pinned (OpenSpec.ofChange codecRowSpec)

/-- ITS FALSE NEIGHBOUR: 'it returns false'. Refute it at one input. -/
def codecRowWrong : ChangeSpec := { name := "codecRow", fn := fun _ => fun
  | [d1, d2] => { results := [.lit (.bool false)], args := [d1, d2] }
  | _ => none }
def CodecRowWrongFalsely : Prop := codecRowRow.holds Try.pinned (OpenSpec.ofChange codecRowWrong)

/-- 'coxswainlaw01.CodecApart': WHATEVER THE INPUT: true; the input reads as it did. -/
def codecApartSpec : ChangeSpec := { name := "codecApart", fn := fun _ => fun
  | [d1, d2, d3] => { results := [.lit (.bool true)], args := [d1, d2, d3] }
  | _ => none }
def codecApartRow : OpenClaim := { program := "ytpoplipjombdbaa", sum := "eebd9faa49e026500d714b35b03892847ffcdf51dba7d78abf2b75e83a405ffc", func := "coxswain/coxswainlaw01.CodecApart", spec := "codecApart", unfollowed := true, recurses := true, apart := false }
def CodecApartSaid : Prop := codecApartRow.holds Try.pinned (OpenSpec.ofChange codecApartSpec)

/-- ITS FALSE NEIGHBOUR: 'it returns false'. Refute it at one input. -/
def codecApartWrong : ChangeSpec := { name := "codecApart", fn := fun _ => fun
  | [d1, d2, d3] => { results := [.lit (.bool false)], args := [d1, d2, d3] }
  | _ => none }
def CodecApartWrongFalsely : Prop := codecApartRow.holds Try.pinned (OpenSpec.ofChange codecApartWrong)

/-- 'coxswainlaw03.NetPlays': WHATEVER THE INPUT: true; the input reads as it did. -/
def netPlaysSpec : ChangeSpec := { name := "netPlays", fn := fun _ => fun
  | [d1, d2] => { results := [.lit (.bool true)], args := [d1, d2] }
  | _ => none }
def netPlaysRow : OpenClaim := { program := "ytpoplipjombdbaa", sum := "eebd9faa49e026500d714b35b03892847ffcdf51dba7d78abf2b75e83a405ffc", func := "coxswain/coxswainlaw03.NetPlays", spec := "netPlays", unfollowed := true, recurses := true, apart := false }
def NetPlaysSaid : Prop := netPlaysRow.holds Try.pinned (OpenSpec.ofChange netPlaysSpec)

/-- ITS FALSE NEIGHBOUR: 'it returns false'. Refute it at one input. -/
def netPlaysWrong : ChangeSpec := { name := "netPlays", fn := fun _ => fun
  | [d1, d2] => { results := [.lit (.bool false)], args := [d1, d2] }
  | _ => none }
def NetPlaysWrongFalsely : Prop := netPlaysRow.holds Try.pinned (OpenSpec.ofChange netPlaysWrong)

/-- 'coxswainlaw03.NetAll': WHATEVER THE INPUT: true; the input reads as it did. -/
def netAllSpec : ChangeSpec := { name := "netAll", fn := fun _ => fun
  | [d1, d2] => { results := [.lit (.bool true)], args := [d1, d2] }
  | _ => none }
def netAllRow : OpenClaim := { program := "ytpoplipjombdbaa", sum := "eebd9faa49e026500d714b35b03892847ffcdf51dba7d78abf2b75e83a405ffc", func := "coxswain/coxswainlaw03.NetAll", spec := "netAll", unfollowed := true, recurses := true, apart := false }
def NetAllSaid : Prop := netAllRow.holds Try.pinned (OpenSpec.ofChange netAllSpec)

/-- ITS FALSE NEIGHBOUR: 'it returns false'. Refute it at one input. -/
def netAllWrong : ChangeSpec := { name := "netAll", fn := fun _ => fun
  | [d1, d2] => { results := [.lit (.bool false)], args := [d1, d2] }
  | _ => none }
def NetAllWrongFalsely : Prop := netAllRow.holds Try.pinned (OpenSpec.ofChange netAllWrong)

/-- 'coxswainlaw03.NetOwn': WHATEVER THE INPUT: true; the input reads as it did. -/
def netOwnSpec : ChangeSpec := { name := "netOwn", fn := fun _ => fun
  | [d] => { results := [.lit (.bool true)], args := [d] }
  | _ => none }
def netOwnRow : OpenClaim := { program := "ytpoplipjombdbaa", sum := "eebd9faa49e026500d714b35b03892847ffcdf51dba7d78abf2b75e83a405ffc", func := "coxswain/coxswainlaw03.NetOwn", spec := "netOwn", unfollowed := true, recurses := true, apart := false }
def NetOwnSaid : Prop := netOwnRow.holds Try.pinned (OpenSpec.ofChange netOwnSpec)

/-- ITS FALSE NEIGHBOUR: 'it returns false'. Refute it at one input. -/
def netOwnWrong : ChangeSpec := { name := "netOwn", fn := fun _ => fun
  | [d] => { results := [.lit (.bool false)], args := [d] }
  | _ => none }
def NetOwnWrongFalsely : Prop := netOwnRow.holds Try.pinned (OpenSpec.ofChange netOwnWrong)

/-- 'coxswainlaw03.NetLoses': WHATEVER THE INPUT: true; the input reads as it did. -/
def netLosesSpec : ChangeSpec := { name := "netLoses", fn := fun _ => fun
  | [d1, d2] => { results := [.lit (.bool true)], args := [d1, d2] }
  | _ => none }
def netLosesRow : OpenClaim := { program := "ytpoplipjombdbaa", sum := "eebd9faa49e026500d714b35b03892847ffcdf51dba7d78abf2b75e83a405ffc", func := "coxswain/coxswainlaw03.NetLoses", spec := "netLoses", unfollowed := true, recurses := true, apart := false }
def NetLosesSaid : Prop := netLosesRow.holds Try.pinned (OpenSpec.ofChange netLosesSpec)

/-- ITS FALSE NEIGHBOUR: 'it returns false'. Refute it at one input. -/
def netLosesWrong : ChangeSpec := { name := "netLoses", fn := fun _ => fun
  | [d1, d2] => { results := [.lit (.bool false)], args := [d1, d2] }
  | _ => none }
def NetLosesWrongFalsely : Prop := netLosesRow.holds Try.pinned (OpenSpec.ofChange netLosesWrong)

/-- 'coxswainlaw03.NetFull': WHATEVER THE INPUT: true; the input reads as it did. -/
def netFullSpec : ChangeSpec := { name := "netFull", fn := fun _ => fun
  | [d1, d2] => { results := [.lit (.bool true)], args := [d1, d2] }
  | _ => none }
def netFullRow : OpenClaim := { program := "ytpoplipjombdbaa", sum := "eebd9faa49e026500d714b35b03892847ffcdf51dba7d78abf2b75e83a405ffc", func := "coxswain/coxswainlaw03.NetFull", spec := "netFull", unfollowed := true, recurses := true, apart := false }
def NetFullSaid : Prop := netFullRow.holds Try.pinned (OpenSpec.ofChange netFullSpec)

/-- ITS FALSE NEIGHBOUR: 'it returns false'. Refute it at one input. -/
def netFullWrong : ChangeSpec := { name := "netFull", fn := fun _ => fun
  | [d1, d2] => { results := [.lit (.bool false)], args := [d1, d2] }
  | _ => none }
def NetFullWrongFalsely : Prop := netFullRow.holds Try.pinned (OpenSpec.ofChange netFullWrong)

/-- 'coxswainlaw01.CodecOwns': WHATEVER THE INPUT: true; the input reads as it did. -/
def codecOwnsSpec : ChangeSpec := { name := "codecOwns", fn := fun _ => fun
  | [d] => { results := [.lit (.bool true)], args := [d] }
  | _ => none }
def codecOwnsRow : OpenClaim := { program := "ytpoplipjombdbaa", sum := "eebd9faa49e026500d714b35b03892847ffcdf51dba7d78abf2b75e83a405ffc", func := "coxswain/coxswainlaw01.CodecOwns", spec := "codecOwns", unfollowed := true, recurses := true, apart := false }
def CodecOwnsSaid : Prop := codecOwnsRow.holds Try.pinned (OpenSpec.ofChange codecOwnsSpec)

/-- ITS FALSE NEIGHBOUR: 'it returns false'. Refute it at one input. -/
def codecOwnsWrong : ChangeSpec := { name := "codecOwns", fn := fun _ => fun
  | [d] => { results := [.lit (.bool false)], args := [d] }
  | _ => none }
def CodecOwnsWrongFalsely : Prop := codecOwnsRow.holds Try.pinned (OpenSpec.ofChange codecOwnsWrong)

/-- 'coxswainlaw01.CodecMore': WHATEVER THE INPUT: true; the input reads as it did. -/
def codecMoreSpec : ChangeSpec := { name := "codecMore", fn := fun _ => fun
  | [d1, d2] => { results := [.lit (.bool true)], args := [d1, d2] }
  | _ => none }
def codecMoreRow : OpenClaim := { program := "ytpoplipjombdbaa", sum := "eebd9faa49e026500d714b35b03892847ffcdf51dba7d78abf2b75e83a405ffc", func := "coxswain/coxswainlaw01.CodecMore", spec := "codecMore", unfollowed := true, recurses := true, apart := false }
def CodecMoreSaid : Prop := codecMoreRow.holds Try.pinned (OpenSpec.ofChange codecMoreSpec)

/-- ITS FALSE NEIGHBOUR: 'it returns false'. Refute it at one input. -/
def codecMoreWrong : ChangeSpec := { name := "codecMore", fn := fun _ => fun
  | [d1, d2] => { results := [.lit (.bool false)], args := [d1, d2] }
  | _ => none }
def CodecMoreWrongFalsely : Prop := codecMoreRow.holds Try.pinned (OpenSpec.ofChange codecMoreWrong)

/- THE SECOND FORM. 'bulk': how many values and letters a reading holds, each counted each time it is reached (what is shared counts as often as it is met; a slice's spare places count too). A statement '..UptoSaid' is the law's where the arguments, and the package variables that the reading takes, are together of bulk at most 1048576: NARROWER than '..Said'. Prove '..Said' where nothing that the law and all that it calls make is longer than what came in: it says more and counts as full. Else prove '..UptoSaid'. A law counts once. -/
mutual
def uptoBulk {H : Type} : DataW H → Nat
  | .lit (.string bytes) => bytes.length + 1
  | .lit _ => 1
  | .nil => 1
  | .ptr d => uptoBulk d + 1
  | .slice elems spare => uptoBulkAll elems + uptoBulkAll spare + 1
  | .agg parts => uptoBulkAll parts + 1
  | .iface _ d => uptoBulk d + 1
  | .map entries => uptoBulkEntries entries + 1
  | .held _ => 1
def uptoBulkAll {H : Type} : List (DataW H) → Nat
  | [] => 0
  | d :: r => uptoBulk d + uptoBulkAll r
def uptoBulkEntries {H : Type} : List (Lit × DataW H) → Nat
  | [] => 0
  | x :: r => uptoBulkEntry x + uptoBulkEntries r
def uptoBulkEntry {H : Type} : Lit × DataW H → Nat
  | (.string bytes, d) => bytes.length + uptoBulk d + 1
  | (_, d) => uptoBulk d + 1
 end
def uptoSmall : (H : Type) → List (DataW H) → Bool := fun _ ds => decide (uptoBulkAll ds ≤ 1048576)
def OpenSpec.upto (s : _root_.Go.ChangeSpec) : _root_.Go.OpenSpec := { _root_.Go.OpenSpec.ofChange s with cond := some uptoSmall }

/-- 'coxswainlaw01.CodecErrors', WHERE WHAT IT READS IS OF BULK AT MOST 1048576: true; the input reads as it did. -/
def codecErrorsUptoRow : OpenClaim := { program := "ytpoplipjombdbaa", sum := "eebd9faa49e026500d714b35b03892847ffcdf51dba7d78abf2b75e83a405ffc", func := "coxswain/coxswainlaw01.CodecErrors", spec := "codecErrors", unfollowed := true, recurses := true, apart := false, narrowed := true }
def CodecErrorsUptoSaid : Prop := codecErrorsUptoRow.holds Try.pinned (OpenSpec.upto codecErrorsSpec)

/-- 'coxswainlaw01.CodecRow', WHERE WHAT IT READS IS OF BULK AT MOST 1048576: true; the input reads as it did. -/
def codecRowUptoRow : OpenClaim := { program := "ytpoplipjombdbaa", sum := "eebd9faa49e026500d714b35b03892847ffcdf51dba7d78abf2b75e83a405ffc", func := "coxswain/coxswainlaw01.CodecRow", spec := "codecRow", unfollowed := true, recurses := true, apart := false, narrowed := true }
def CodecRowUptoSaid : Prop := codecRowUptoRow.holds Try.pinned (OpenSpec.upto codecRowSpec)

/-- 'coxswainlaw01.CodecApart', WHERE WHAT IT READS IS OF BULK AT MOST 1048576: true; the input reads as it did. -/
def codecApartUptoRow : OpenClaim := { program := "ytpoplipjombdbaa", sum := "eebd9faa49e026500d714b35b03892847ffcdf51dba7d78abf2b75e83a405ffc", func := "coxswain/coxswainlaw01.CodecApart", spec := "codecApart", unfollowed := true, recurses := true, apart := false, narrowed := true }
def CodecApartUptoSaid : Prop := codecApartUptoRow.holds Try.pinned (OpenSpec.upto codecApartSpec)

/-- 'coxswainlaw03.NetPlays', WHERE WHAT IT READS IS OF BULK AT MOST 1048576: true; the input reads as it did. -/
def netPlaysUptoRow : OpenClaim := { program := "ytpoplipjombdbaa", sum := "eebd9faa49e026500d714b35b03892847ffcdf51dba7d78abf2b75e83a405ffc", func := "coxswain/coxswainlaw03.NetPlays", spec := "netPlays", unfollowed := true, recurses := true, apart := false, narrowed := true }
def NetPlaysUptoSaid : Prop := netPlaysUptoRow.holds Try.pinned (OpenSpec.upto netPlaysSpec)

/-- 'coxswainlaw03.NetAll', WHERE WHAT IT READS IS OF BULK AT MOST 1048576: true; the input reads as it did. -/
def netAllUptoRow : OpenClaim := { program := "ytpoplipjombdbaa", sum := "eebd9faa49e026500d714b35b03892847ffcdf51dba7d78abf2b75e83a405ffc", func := "coxswain/coxswainlaw03.NetAll", spec := "netAll", unfollowed := true, recurses := true, apart := false, narrowed := true }
def NetAllUptoSaid : Prop := netAllUptoRow.holds Try.pinned (OpenSpec.upto netAllSpec)

/-- 'coxswainlaw03.NetOwn', WHERE WHAT IT READS IS OF BULK AT MOST 1048576: true; the input reads as it did. -/
def netOwnUptoRow : OpenClaim := { program := "ytpoplipjombdbaa", sum := "eebd9faa49e026500d714b35b03892847ffcdf51dba7d78abf2b75e83a405ffc", func := "coxswain/coxswainlaw03.NetOwn", spec := "netOwn", unfollowed := true, recurses := true, apart := false, narrowed := true }
def NetOwnUptoSaid : Prop := netOwnUptoRow.holds Try.pinned (OpenSpec.upto netOwnSpec)

/-- 'coxswainlaw03.NetLoses', WHERE WHAT IT READS IS OF BULK AT MOST 1048576: true; the input reads as it did. -/
def netLosesUptoRow : OpenClaim := { program := "ytpoplipjombdbaa", sum := "eebd9faa49e026500d714b35b03892847ffcdf51dba7d78abf2b75e83a405ffc", func := "coxswain/coxswainlaw03.NetLoses", spec := "netLoses", unfollowed := true, recurses := true, apart := false, narrowed := true }
def NetLosesUptoSaid : Prop := netLosesUptoRow.holds Try.pinned (OpenSpec.upto netLosesSpec)

/-- 'coxswainlaw03.NetFull', WHERE WHAT IT READS IS OF BULK AT MOST 1048576: true; the input reads as it did. -/
def netFullUptoRow : OpenClaim := { program := "ytpoplipjombdbaa", sum := "eebd9faa49e026500d714b35b03892847ffcdf51dba7d78abf2b75e83a405ffc", func := "coxswain/coxswainlaw03.NetFull", spec := "netFull", unfollowed := true, recurses := true, apart := false, narrowed := true }
def NetFullUptoSaid : Prop := netFullUptoRow.holds Try.pinned (OpenSpec.upto netFullSpec)

/-- 'coxswainlaw01.CodecOwns', WHERE WHAT IT READS IS OF BULK AT MOST 1048576: true; the input reads as it did. -/
def codecOwnsUptoRow : OpenClaim := { program := "ytpoplipjombdbaa", sum := "eebd9faa49e026500d714b35b03892847ffcdf51dba7d78abf2b75e83a405ffc", func := "coxswain/coxswainlaw01.CodecOwns", spec := "codecOwns", unfollowed := true, recurses := true, apart := false, narrowed := true }
def CodecOwnsUptoSaid : Prop := codecOwnsUptoRow.holds Try.pinned (OpenSpec.upto codecOwnsSpec)

/-- 'coxswainlaw01.CodecMore', WHERE WHAT IT READS IS OF BULK AT MOST 1048576: true; the input reads as it did. -/
def codecMoreUptoRow : OpenClaim := { program := "ytpoplipjombdbaa", sum := "eebd9faa49e026500d714b35b03892847ffcdf51dba7d78abf2b75e83a405ffc", func := "coxswain/coxswainlaw01.CodecMore", spec := "codecMore", unfollowed := true, recurses := true, apart := false, narrowed := true }
def CodecMoreUptoSaid : Prop := codecMoreUptoRow.holds Try.pinned (OpenSpec.upto codecMoreSpec)

end Rows
end Go.Proofs.Ytpoplipjombdbaa
