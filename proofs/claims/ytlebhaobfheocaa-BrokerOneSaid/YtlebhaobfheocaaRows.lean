/-
  No cell of these rows narrows 'for every input' (looked for: loops, veiled, ifaces, maps, wideKeys, modest, calm, conditions, laid).
  DERIVED. THE GIVEN ROWS OF THIS SEAT. 4 by the template 'for every input the law returns true; each argument reads behind the call as it read before'; 0 by the template 'total and deterministic' (their statements: YtlebhaobfheocaaTotals.lean).
  GIVEN WITH THE SEED: the statements are not yours to turn. If you find one false, say at which input.
  Laid BY PROGRAM, IN A SANDBOX (cutbox-rows.mjs): the forced cells as the released guide's own fill.sh prints them over the translation 05e9afe1fc622590… (all of the seat's roots in one cut). By AI agents, Wed Nov 11 2026. No macro, syntax, notation, axiom, sorry.
-/
import Derived.Test.YtlebhaobfheocaaChecked
import GoSem.Claim
import GoSem.ClaimJoined
import GoSem.ClaimMapViews
import Derived.JoinedTies
import Derived.KernelRfl
namespace Go.Proofs.Ytlebhaobfheocaa
/- THE CELL 'sum', in the pinned program and in every row, IS THE sha256 OF THE DUMP (.gsa) THAT YtlebhaobfheocaaProg.lean LOADS. Nothing in Lean hashes anything: it is a label: what it is worth is what the hold of that sum in a sandbox is worth. -/
noncomputable def Try.pinned : Pinned := { name := "ytlebhaobfheocaa", sum := "05e9afe1fc6225908df5b9d7913a9a805d3bc8f676d8bd00692b61b81e8645da", checked := Try.checked }
namespace Rows
def none {H : Type} : Left H := { results := [], args := [] }

/-- 'coxswainlaw15.BrokerFirst': WHATEVER THE INPUT: true; the input reads as it did. -/
def brokerFirstSpec : ChangeSpec := { name := "brokerFirst", fn := fun _ => fun
  | [d] => { results := [.lit (.bool true)], args := [d] }
  | _ => none }
def brokerFirstRow : OpenClaim := { program := "ytlebhaobfheocaa", sum := "05e9afe1fc6225908df5b9d7913a9a805d3bc8f676d8bd00692b61b81e8645da", func := "coxswain/coxswainlaw15.BrokerFirst", spec := "brokerFirst", unfollowed := true, recurses := true, apart := false }
def BrokerFirstSaid : Prop := brokerFirstRow.holds Try.pinned (OpenSpec.ofChange brokerFirstSpec)

/-- ITS FALSE NEIGHBOUR: 'it returns false'. Refute it at one input. -/
def brokerFirstWrong : ChangeSpec := { name := "brokerFirst", fn := fun _ => fun
  | [d] => { results := [.lit (.bool false)], args := [d] }
  | _ => none }
def BrokerFirstWrongFalsely : Prop := brokerFirstRow.holds Try.pinned (OpenSpec.ofChange brokerFirstWrong)

/-- 'coxswainlaw15.BrokerKeeps': WHATEVER THE INPUT: true; the input reads as it did. -/
def brokerKeepsSpec : ChangeSpec := { name := "brokerKeeps", fn := fun _ => fun
  | [d1, d2] => { results := [.lit (.bool true)], args := [d1, d2] }
  | _ => none }
def brokerKeepsRow : OpenClaim := { program := "ytlebhaobfheocaa", sum := "05e9afe1fc6225908df5b9d7913a9a805d3bc8f676d8bd00692b61b81e8645da", func := "coxswain/coxswainlaw15.BrokerKeeps", spec := "brokerKeeps", unfollowed := true, recurses := true, apart := false }
def BrokerKeepsSaid : Prop := brokerKeepsRow.holds Try.pinned (OpenSpec.ofChange brokerKeepsSpec)

/-- ITS FALSE NEIGHBOUR: 'it returns false'. Refute it at one input. -/
def brokerKeepsWrong : ChangeSpec := { name := "brokerKeeps", fn := fun _ => fun
  | [d1, d2] => { results := [.lit (.bool false)], args := [d1, d2] }
  | _ => none }
def BrokerKeepsWrongFalsely : Prop := brokerKeepsRow.holds Try.pinned (OpenSpec.ofChange brokerKeepsWrong)

/-- 'coxswainlaw15.BrokerPlays': WHATEVER THE INPUT: true; the input reads as it did. -/
def brokerPlaysSpec : ChangeSpec := { name := "brokerPlays", fn := fun _ => fun
  | [d] => { results := [.lit (.bool true)], args := [d] }
  | _ => none }
def brokerPlaysRow : OpenClaim := { program := "ytlebhaobfheocaa", sum := "05e9afe1fc6225908df5b9d7913a9a805d3bc8f676d8bd00692b61b81e8645da", func := "coxswain/coxswainlaw15.BrokerPlays", spec := "brokerPlays", unfollowed := true, recurses := true, apart := false }
def BrokerPlaysSaid : Prop := brokerPlaysRow.holds Try.pinned (OpenSpec.ofChange brokerPlaysSpec)

/-- ITS FALSE NEIGHBOUR: 'it returns false'. Refute it at one input. -/
def brokerPlaysWrong : ChangeSpec := { name := "brokerPlays", fn := fun _ => fun
  | [d] => { results := [.lit (.bool false)], args := [d] }
  | _ => none }
def BrokerPlaysWrongFalsely : Prop := brokerPlaysRow.holds Try.pinned (OpenSpec.ofChange brokerPlaysWrong)

/-- 'coxswainlaw15.BrokerOne': WHATEVER THE INPUT: true; the input reads as it did. -/
def brokerOneSpec : ChangeSpec := { name := "brokerOne", fn := fun _ => fun
  | [d] => { results := [.lit (.bool true)], args := [d] }
  | _ => none }
def brokerOneRow : OpenClaim := { program := "ytlebhaobfheocaa", sum := "05e9afe1fc6225908df5b9d7913a9a805d3bc8f676d8bd00692b61b81e8645da", func := "coxswain/coxswainlaw15.BrokerOne", spec := "brokerOne", unfollowed := true, recurses := true, apart := false }
def BrokerOneSaid : Prop := brokerOneRow.holds Try.pinned (OpenSpec.ofChange brokerOneSpec)

/-- ITS FALSE NEIGHBOUR: 'it returns false'. Refute it at one input. -/
def brokerOneWrong : ChangeSpec := { name := "brokerOne", fn := fun _ => fun
  | [d] => { results := [.lit (.bool false)], args := [d] }
  | _ => none }
def BrokerOneWrongFalsely : Prop := brokerOneRow.holds Try.pinned (OpenSpec.ofChange brokerOneWrong)

/- THE SECOND FORM. 'bulk': how many values and letters a reading holds, each counted each time it is reached (what is shared counts as often as it is met; a slice's spare places count too). A statement '..UptoSaid' is the law's where the arguments, and the package variables that the reading takes, are together of bulk at most 1048576: NARROWER than '..Said'. Prove '..Said' where nothing that the law and all that it calls make is longer than what came in: it says more and counts as full. Else prove '..UptoSaid'. A law counts once. -/
mutual
def uptoBulk {H : Type} : DataW H → Nat
  | .lit (.string bytes) => bytes.length + 1
  | .lit _ => 1
  | .nil => 1
  | .ptr d => uptoBulk d + 1
  | .slice elems spare => uptoBulkAll elems + uptoBulkAll spare + 1
  | .agg parts => uptoBulkAll parts + 1
  | .iface _ d => uptoBulk d + 1
  | .map entries => uptoBulkEntries entries + 1
  | .held _ => 1
def uptoBulkAll {H : Type} : List (DataW H) → Nat
  | [] => 0
  | d :: r => uptoBulk d + uptoBulkAll r
def uptoBulkEntries {H : Type} : List (Lit × DataW H) → Nat
  | [] => 0
  | x :: r => uptoBulkEntry x + uptoBulkEntries r
def uptoBulkEntry {H : Type} : Lit × DataW H → Nat
  | (.string bytes, d) => bytes.length + uptoBulk d + 1
  | (_, d) => uptoBulk d + 1
 end
def uptoSmall : (H : Type) → List (DataW H) → Bool := fun _ ds => decide (uptoBulkAll ds ≤ 1048576)
def OpenSpec.upto (s : _root_.Go.ChangeSpec) : _root_.Go.OpenSpec := { _root_.Go.OpenSpec.ofChange s with cond := some uptoSmall }

/-- 'coxswainlaw15.BrokerFirst', WHERE WHAT IT READS IS OF BULK AT MOST 1048576: true; the input reads as it did. -/
def brokerFirstUptoRow : OpenClaim := { program := "ytlebhaobfheocaa", sum := "05e9afe1fc6225908df5b9d7913a9a805d3bc8f676d8bd00692b61b81e8645da", func := "coxswain/coxswainlaw15.BrokerFirst", spec := "brokerFirst", unfollowed := true, recurses := true, apart := false, narrowed := true }
def BrokerFirstUptoSaid : Prop := brokerFirstUptoRow.holds Try.pinned (OpenSpec.upto brokerFirstSpec)

/-- 'coxswainlaw15.BrokerKeeps', WHERE WHAT IT READS IS OF BULK AT MOST 1048576: true; the input reads as it did. -/
def brokerKeepsUptoRow : OpenClaim := { program := "ytlebhaobfheocaa", sum := "05e9afe1fc6225908df5b9d7913a9a805d3bc8f676d8bd00692b61b81e8645da", func := "coxswain/coxswainlaw15.BrokerKeeps", spec := "brokerKeeps", unfollowed := true, recurses := true, apart := false, narrowed := true }
def BrokerKeepsUptoSaid : Prop := brokerKeepsUptoRow.holds Try.pinned (OpenSpec.upto brokerKeepsSpec)

/-- 'coxswainlaw15.BrokerPlays', WHERE WHAT IT READS IS OF BULK AT MOST 1048576: true; the input reads as it did. -/
def brokerPlaysUptoRow : OpenClaim := { program := "ytlebhaobfheocaa", sum := "05e9afe1fc6225908df5b9d7913a9a805d3bc8f676d8bd00692b61b81e8645da", func := "coxswain/coxswainlaw15.BrokerPlays", spec := "brokerPlays", unfollowed := true, recurses := true, apart := false, narrowed := true }
def BrokerPlaysUptoSaid : Prop := brokerPlaysUptoRow.holds Try.pinned (OpenSpec.upto brokerPlaysSpec)

/-- 'coxswainlaw15.BrokerOne', WHERE WHAT IT READS IS OF BULK AT MOST 1048576: true; the input reads as it did. -/
def brokerOneUptoRow : OpenClaim := { program := "ytlebhaobfheocaa", sum := "05e9afe1fc6225908df5b9d7913a9a805d3bc8f676d8bd00692b61b81e8645da", func := "coxswain/coxswainlaw15.BrokerOne", spec := "brokerOne", unfollowed := true, recurses := true, apart := false, narrowed := true }
def BrokerOneUptoSaid : Prop := brokerOneUptoRow.holds Try.pinned (OpenSpec.upto brokerOneSpec)

end Rows
end Go.Proofs.Ytlebhaobfheocaa
