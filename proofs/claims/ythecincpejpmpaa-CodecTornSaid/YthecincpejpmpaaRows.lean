/-
  No cell of these rows narrows 'for every input' (looked for: loops, veiled, ifaces, maps, wideKeys, modest, calm, conditions, laid).
  DERIVED. THE GIVEN ROWS OF THIS SEAT. 8 by the template 'for every input the law returns true; each argument reads behind the call as it read before'; 0 by the template 'total and deterministic' (their statements: YthecincpejpmpaaTotals.lean).
  GIVEN WITH THE SEED: the statements are not yours to turn. If you find one false, say at which input.
  Laid BY PROGRAM, IN A SANDBOX (cutbox-rows.mjs): the forced cells as the released guide's own fill.sh prints them over the translation 7e96cd2ad3121222… (all of the seat's roots in one cut). By AI agents, Wed Nov 11 2026. No macro, syntax, notation, axiom, sorry.
-/
import Derived.Test.YthecincpejpmpaaChecked
import GoSem.Claim
import GoSem.ClaimJoined
import GoSem.ClaimMapViews
import Derived.JoinedTies
import Derived.KernelRfl
namespace Go.Proofs.Ythecincpejpmpaa
/- THE CELL 'sum', in the pinned program and in every row, IS THE sha256 OF THE DUMP (.gsa) THAT YthecincpejpmpaaProg.lean LOADS. Nothing in Lean hashes anything: it is a label: what it is worth is what the hold of that sum in a sandbox is worth. -/
noncomputable def Try.pinned : Pinned := { name := "ythecincpejpmpaa", sum := "7e96cd2ad31212221343ae298f9c13acdd770accc2d0fad93be898c33a49ed60", checked := Try.checked }
namespace Rows
def none {H : Type} : Left H := { results := [], args := [] }

/-- 'coxswainlaw01.CodecFrames': WHATEVER THE INPUT: true; the input reads as it did. -/
def codecFramesSpec : ChangeSpec := { name := "codecFrames", fn := fun _ => fun
  | [d1, d2, d3, d4] => { results := [.lit (.bool true)], args := [d1, d2, d3, d4] }
  | _ => none }
def codecFramesRow : OpenClaim := { program := "ythecincpejpmpaa", sum := "7e96cd2ad31212221343ae298f9c13acdd770accc2d0fad93be898c33a49ed60", func := "coxswain/coxswainlaw01.CodecFrames", spec := "codecFrames", unfollowed := true, recurses := true, apart := false }
def CodecFramesSaid : Prop := codecFramesRow.holds Try.pinned (OpenSpec.ofChange codecFramesSpec)

/-- ITS FALSE NEIGHBOUR: 'it returns false'. Refute it at one input. -/
def codecFramesWrong : ChangeSpec := { name := "codecFrames", fn := fun _ => fun
  | [d1, d2, d3, d4] => { results := [.lit (.bool false)], args := [d1, d2, d3, d4] }
  | _ => none }
def CodecFramesWrongFalsely : Prop := codecFramesRow.holds Try.pinned (OpenSpec.ofChange codecFramesWrong)

/-- 'coxswainlaw01.CodecUnframes': WHATEVER THE INPUT: true; the input reads as it did. -/
def codecUnframesSpec : ChangeSpec := { name := "codecUnframes", fn := fun _ => fun
  | [d] => { results := [.lit (.bool true)], args := [d] }
  | _ => none }
def codecUnframesRow : OpenClaim := { program := "ythecincpejpmpaa", sum := "7e96cd2ad31212221343ae298f9c13acdd770accc2d0fad93be898c33a49ed60", func := "coxswain/coxswainlaw01.CodecUnframes", spec := "codecUnframes", unfollowed := true, recurses := true, apart := false }
def CodecUnframesSaid : Prop := codecUnframesRow.holds Try.pinned (OpenSpec.ofChange codecUnframesSpec)

/-- ITS FALSE NEIGHBOUR: 'it returns false'. Refute it at one input. -/
def codecUnframesWrong : ChangeSpec := { name := "codecUnframes", fn := fun _ => fun
  | [d] => { results := [.lit (.bool false)], args := [d] }
  | _ => none }
def CodecUnframesWrongFalsely : Prop := codecUnframesRow.holds Try.pinned (OpenSpec.ofChange codecUnframesWrong)

/-- 'coxswainlaw01.CodecTorn': WHATEVER THE INPUT: true; the input reads as it did. -/
def codecTornSpec : ChangeSpec := { name := "codecTorn", fn := fun _ => fun
  | [d1, d2, d3, d4] => { results := [.lit (.bool true)], args := [d1, d2, d3, d4] }
  | _ => none }
def codecTornRow : OpenClaim := { program := "ythecincpejpmpaa", sum := "7e96cd2ad31212221343ae298f9c13acdd770accc2d0fad93be898c33a49ed60", func := "coxswain/coxswainlaw01.CodecTorn", spec := "codecTorn", unfollowed := true, recurses := true, apart := false }
def CodecTornSaid : Prop := codecTornRow.holds Try.pinned (OpenSpec.ofChange codecTornSpec)

/-- ITS FALSE NEIGHBOUR: 'it returns false'. Refute it at one input. -/
def codecTornWrong : ChangeSpec := { name := "codecTorn", fn := fun _ => fun
  | [d1, d2, d3, d4] => { results := [.lit (.bool false)], args := [d1, d2, d3, d4] }
  | _ => none }
def CodecTornWrongFalsely : Prop := codecTornRow.holds Try.pinned (OpenSpec.ofChange codecTornWrong)

/-- 'coxswainlaw01.CodecApart': WHATEVER THE INPUT: true; the input reads as it did. -/
def codecApartSpec : ChangeSpec := { name := "codecApart", fn := fun _ => fun
  | [d1, d2, d3] => { results := [.lit (.bool true)], args := [d1, d2, d3] }
  | _ => none }
def codecApartRow : OpenClaim := { program := "ythecincpejpmpaa", sum := "7e96cd2ad31212221343ae298f9c13acdd770accc2d0fad93be898c33a49ed60", func := "coxswain/coxswainlaw01.CodecApart", spec := "codecApart", unfollowed := true, recurses := true, apart := false }
def CodecApartSaid : Prop := codecApartRow.holds Try.pinned (OpenSpec.ofChange codecApartSpec)

/-- ITS FALSE NEIGHBOUR: 'it returns false'. Refute it at one input. -/
def codecApartWrong : ChangeSpec := { name := "codecApart", fn := fun _ => fun
  | [d1, d2, d3] => { results := [.lit (.bool false)], args := [d1, d2, d3] }
  | _ => none }
def CodecApartWrongFalsely : Prop := codecApartRow.holds Try.pinned (OpenSpec.ofChange codecApartWrong)

/-- 'coxswainlaw03.NetAll': WHATEVER THE INPUT: true; the input reads as it did. -/
def netAllSpec : ChangeSpec := { name := "netAll", fn := fun _ => fun
  | [d1, d2] => { results := [.lit (.bool true)], args := [d1, d2] }
  | _ => none }
def netAllRow : OpenClaim := { program := "ythecincpejpmpaa", sum := "7e96cd2ad31212221343ae298f9c13acdd770accc2d0fad93be898c33a49ed60", func := "coxswain/coxswainlaw03.NetAll", spec := "netAll", unfollowed := true, recurses := true, apart := false }
def NetAllSaid : Prop := netAllRow.holds Try.pinned (OpenSpec.ofChange netAllSpec)

/-- ITS FALSE NEIGHBOUR: 'it returns false'. Refute it at one input. -/
def netAllWrong : ChangeSpec := { name := "netAll", fn := fun _ => fun
  | [d1, d2] => { results := [.lit (.bool false)], args := [d1, d2] }
  | _ => none }
def NetAllWrongFalsely : Prop := netAllRow.holds Try.pinned (OpenSpec.ofChange netAllWrong)

/-- 'coxswainlaw03.NetLoses': WHATEVER THE INPUT: true; the input reads as it did. -/
def netLosesSpec : ChangeSpec := { name := "netLoses", fn := fun _ => fun
  | [d1, d2] => { results := [.lit (.bool true)], args := [d1, d2] }
  | _ => none }
def netLosesRow : OpenClaim := { program := "ythecincpejpmpaa", sum := "7e96cd2ad31212221343ae298f9c13acdd770accc2d0fad93be898c33a49ed60", func := "coxswain/coxswainlaw03.NetLoses", spec := "netLoses", unfollowed := true, recurses := true, apart := false }
def NetLosesSaid : Prop := netLosesRow.holds Try.pinned (OpenSpec.ofChange netLosesSpec)

/-- ITS FALSE NEIGHBOUR: 'it returns false'. Refute it at one input. -/
def netLosesWrong : ChangeSpec := { name := "netLoses", fn := fun _ => fun
  | [d1, d2] => { results := [.lit (.bool false)], args := [d1, d2] }
  | _ => none }
def NetLosesWrongFalsely : Prop := netLosesRow.holds Try.pinned (OpenSpec.ofChange netLosesWrong)

/-- 'coxswainlaw03.NetFull': WHATEVER THE INPUT: true; the input reads as it did. -/
def netFullSpec : ChangeSpec := { name := "netFull", fn := fun _ => fun
  | [d1, d2] => { results := [.lit (.bool true)], args := [d1, d2] }
  | _ => none }
def netFullRow : OpenClaim := { program := "ythecincpejpmpaa", sum := "7e96cd2ad31212221343ae298f9c13acdd770accc2d0fad93be898c33a49ed60", func := "coxswain/coxswainlaw03.NetFull", spec := "netFull", unfollowed := true, recurses := true, apart := false }
def NetFullSaid : Prop := netFullRow.holds Try.pinned (OpenSpec.ofChange netFullSpec)

/-- ITS FALSE NEIGHBOUR: 'it returns false'. Refute it at one input. -/
def netFullWrong : ChangeSpec := { name := "netFull", fn := fun _ => fun
  | [d1, d2] => { results := [.lit (.bool false)], args := [d1, d2] }
  | _ => none }
def NetFullWrongFalsely : Prop := netFullRow.holds Try.pinned (OpenSpec.ofChange netFullWrong)

/-- 'coxswainlaw01.CodecMore': WHATEVER THE INPUT: true; the input reads as it did. -/
def codecMoreSpec : ChangeSpec := { name := "codecMore", fn := fun _ => fun
  | [d1, d2] => { results := [.lit (.bool true)], args := [d1, d2] }
  | _ => none }
def codecMoreRow : OpenClaim := { program := "ythecincpejpmpaa", sum := "7e96cd2ad31212221343ae298f9c13acdd770accc2d0fad93be898c33a49ed60", func := "coxswain/coxswainlaw01.CodecMore", spec := "codecMore", unfollowed := true, recurses := true, apart := false }
def CodecMoreSaid : Prop := codecMoreRow.holds Try.pinned (OpenSpec.ofChange codecMoreSpec)

/-- ITS FALSE NEIGHBOUR: 'it returns false'. Refute it at one input. -/
def codecMoreWrong : ChangeSpec := { name := "codecMore", fn := fun _ => fun
  | [d1, d2] => { results := [.lit (.bool false)], args := [d1, d2] }
  | _ => none }
def CodecMoreWrongFalsely : Prop := codecMoreRow.holds Try.pinned (OpenSpec.ofChange codecMoreWrong)

/- THE SECOND FORM. 'bulk': how many values and letters a reading holds, each counted each time it is reached (what is shared counts as often as it is met; a slice's spare places count too). A statement '..UptoSaid' is the law's where the arguments, and the package variables that the reading takes, are together of bulk at most 1048576: NARROWER than '..Said'. Prove '..Said' where nothing that the law and all that it calls make is longer than what came in: it says more and counts as full. Else prove '..UptoSaid'. A law counts once. -/
mutual
def uptoBulk {H : Type} : DataW H → Nat
  | .lit (.string bytes) => bytes.length + 1
  | .lit _ => 1
  | .nil => 1
  | .ptr d => uptoBulk d + 1
  | .slice elems spare => uptoBulkAll elems + uptoBulkAll spare + 1
  | .agg parts => uptoBulkAll parts + 1
  | .iface _ d => uptoBulk d + 1
  | .map entries => uptoBulkEntries entries + 1
  | .held _ => 1
def uptoBulkAll {H : Type} : List (DataW H) → Nat
  | [] => 0
  | d :: r => uptoBulk d + uptoBulkAll r
def uptoBulkEntries {H : Type} : List (Lit × DataW H) → Nat
  | [] => 0
  | x :: r => uptoBulkEntry x + uptoBulkEntries r
def uptoBulkEntry {H : Type} : Lit × DataW H → Nat
  | (.string bytes, d) => bytes.length + uptoBulk d + 1
  | (_, d) => uptoBulk d + 1
 end
def uptoSmall : (H : Type) → List (DataW H) → Bool := fun _ ds => decide (uptoBulkAll ds ≤ 1048576)
def OpenSpec.upto (s : _root_.Go.ChangeSpec) : _root_.Go.OpenSpec := { _root_.Go.OpenSpec.ofChange s with cond := some uptoSmall }

/-- 'coxswainlaw01.CodecFrames', WHERE WHAT IT READS IS OF BULK AT MOST 1048576: true; the input reads as it did. -/
def codecFramesUptoRow : OpenClaim := { program := "ythecincpejpmpaa", sum := "7e96cd2ad31212221343ae298f9c13acdd770accc2d0fad93be898c33a49ed60", func := "coxswain/coxswainlaw01.CodecFrames", spec := "codecFrames", unfollowed := true, recurses := true, apart := false, narrowed := true }
def CodecFramesUptoSaid : Prop := codecFramesUptoRow.holds Try.pinned (OpenSpec.upto codecFramesSpec)

/-- 'coxswainlaw01.CodecUnframes', WHERE WHAT IT READS IS OF BULK AT MOST 1048576: true; the input reads as it did. -/
def codecUnframesUptoRow : OpenClaim := { program := "ythecincpejpmpaa", sum := "7e96cd2ad31212221343ae298f9c13acdd770accc2d0fad93be898c33a49ed60", func := "coxswain/coxswainlaw01.CodecUnframes", spec := "codecUnframes", unfollowed := true, recurses := true, apart := false, narrowed := true }
def CodecUnframesUptoSaid : Prop := codecUnframesUptoRow.holds Try.pinned (OpenSpec.upto codecUnframesSpec)

/-- 'coxswainlaw01.CodecTorn', WHERE WHAT IT READS IS OF BULK AT MOST 1048576: true; the input reads as it did. -/
def codecTornUptoRow : OpenClaim := { program := "ythecincpejpmpaa", sum := "7e96cd2ad31212221343ae298f9c13acdd770accc2d0fad93be898c33a49ed60", func := "coxswain/coxswainlaw01.CodecTorn", spec := "codecTorn", unfollowed := true, recurses := true, apart := false, narrowed := true }
def CodecTornUptoSaid : Prop := codecTornUptoRow.holds Try.pinned (OpenSpec.upto codecTornSpec)

/-- 'coxswainlaw01.CodecApart', WHERE WHAT IT READS IS OF BULK AT MOST 1048576: true; the input reads as it did. -/
def codecApartUptoRow : OpenClaim := { program := "ythecincpejpmpaa", sum := "7e96cd2ad31212221343ae298f9c13acdd770accc2d0fad93be898c33a49ed60", func := "coxswain/coxswainlaw01.CodecApart", spec := "codecApart", unfollowed := true, recurses := true, apart := false, narrowed := true }
def CodecApartUptoSaid : Prop := codecApartUptoRow.holds Try.pinned (OpenSpec.upto codecApartSpec)

/-- 'coxswainlaw03.NetAll', WHERE WHAT IT READS IS OF BULK AT MOST 1048576: true; the input reads as it did. -/
def netAllUptoRow : OpenClaim := { program := "ythecincpejpmpaa", sum := "7e96cd2ad31212221343ae298f9c13acdd770accc2d0fad93be898c33a49ed60", func := "coxswain/coxswainlaw03.NetAll", spec := "netAll", unfollowed := true, recurses := true, apart := false, narrowed := true }
def NetAllUptoSaid : Prop := netAllUptoRow.holds Try.pinned (OpenSpec.upto netAllSpec)

/-- 'coxswainlaw03.NetLoses', WHERE WHAT IT READS IS OF BULK AT MOST 1048576: true; the input reads as it did. -/
def netLosesUptoRow : OpenClaim := { program := "ythecincpejpmpaa", sum := "7e96cd2ad31212221343ae298f9c13acdd770accc2d0fad93be898c33a49ed60", func := "coxswain/coxswainlaw03.NetLoses", spec := "netLoses", unfollowed := true, recurses := true, apart := false, narrowed := true }
def NetLosesUptoSaid : Prop := netLosesUptoRow.holds Try.pinned (OpenSpec.upto netLosesSpec)

/-- 'coxswainlaw03.NetFull', WHERE WHAT IT READS IS OF BULK AT MOST 1048576: true; the input reads as it did. -/
def netFullUptoRow : OpenClaim := { program := "ythecincpejpmpaa", sum := "7e96cd2ad31212221343ae298f9c13acdd770accc2d0fad93be898c33a49ed60", func := "coxswain/coxswainlaw03.NetFull", spec := "netFull", unfollowed := true, recurses := true, apart := false, narrowed := true }
def NetFullUptoSaid : Prop := netFullUptoRow.holds Try.pinned (OpenSpec.upto netFullSpec)

/-- 'coxswainlaw01.CodecMore', WHERE WHAT IT READS IS OF BULK AT MOST 1048576: true; the input reads as it did. -/
def codecMoreUptoRow : OpenClaim := { program := "ythecincpejpmpaa", sum := "7e96cd2ad31212221343ae298f9c13acdd770accc2d0fad93be898c33a49ed60", func := "coxswain/coxswainlaw01.CodecMore", spec := "codecMore", unfollowed := true, recurses := true, apart := false, narrowed := true }
def CodecMoreUptoSaid : Prop := codecMoreUptoRow.holds Try.pinned (OpenSpec.upto codecMoreSpec)

end Rows
end Go.Proofs.Ythecincpejpmpaa
