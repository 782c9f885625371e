/-
  No cell of these rows narrows 'for every input' (looked for: loops, veiled, ifaces, maps, wideKeys, modest, calm, conditions, laid).
  DERIVED. THE GIVEN ROWS OF THIS SEAT. 10 by the template 'for every input the law returns true; each argument reads behind the call as it read before'; 0 by the template 'total and deterministic' (their statements: YtcefadbnmpjeiaaTotals.lean).
  GIVEN WITH THE SEED: the statements are not yours to turn. If you find one false, say at which input.
  Laid BY PROGRAM, IN A SANDBOX (cutbox-rows.mjs): the forced cells as the released guide's own fill.sh prints them over the translation 3725d32d8aa31373… (all of the seat's roots in one cut). By AI agents, Wed Nov 11 2026. No macro, syntax, notation, axiom, sorry.
-/
import Derived.Test.YtcefadbnmpjeiaaChecked
import GoSem.Claim
import GoSem.ClaimJoined
import GoSem.ClaimMapViews
import Derived.JoinedTies
import Derived.KernelRfl
namespace Go.Proofs.Ytcefadbnmpjeiaa
/- THE CELL 'sum', in the pinned program and in every row, IS THE sha256 OF THE DUMP (.gsa) THAT YtcefadbnmpjeiaaProg.lean LOADS. Nothing in Lean hashes anything: it is a label: what it is worth is what the hold of that sum in a sandbox is worth. -/
noncomputable def Try.pinned : Pinned := { name := "ytcefadbnmpjeiaa", sum := "3725d32d8aa31373d27f1d0c707b56a3159ab6f3e00368955fe82c9bec3d269a", checked := Try.checked }
namespace Rows
def none {H : Type} : Left H := { results := [], args := [] }

/-- 'roundhouselaw04.CoresTell': WHATEVER THE INPUT: true; the input reads as it did. -/
def coresTellSpec : ChangeSpec := { name := "coresTell", fn := fun _ => fun
  | [d1, d2, d3] => { results := [.lit (.bool true)], args := [d1, d2, d3] }
  | _ => none }
def coresTellRow : OpenClaim := { program := "ytcefadbnmpjeiaa", sum := "3725d32d8aa31373d27f1d0c707b56a3159ab6f3e00368955fe82c9bec3d269a", func := "roundhouse/roundhouselaw04.CoresTell", spec := "coresTell", unfollowed := true, recurses := true, apart := false }
def CoresTellSaid : Prop := coresTellRow.holds Try.pinned (OpenSpec.ofChange coresTellSpec)

/-- ITS FALSE NEIGHBOUR: 'it returns false'. Refute it at one input. -/
def coresTellWrong : ChangeSpec := { name := "coresTell", fn := fun _ => fun
  | [d1, d2, d3] => { results := [.lit (.bool false)], args := [d1, d2, d3] }
  | _ => none }
def CoresTellWrongFalsely : Prop := coresTellRow.holds Try.pinned (OpenSpec.ofChange coresTellWrong)

/-- 'roundhouselaw04.CoresAssign': WHATEVER THE INPUT: true; the input reads as it did. -/
def coresAssignSpec : ChangeSpec := { name := "coresAssign", fn := fun _ => fun
  | [d1, d2] => { results := [.lit (.bool true)], args := [d1, d2] }
  | _ => none }
def coresAssignRow : OpenClaim := { program := "ytcefadbnmpjeiaa", sum := "3725d32d8aa31373d27f1d0c707b56a3159ab6f3e00368955fe82c9bec3d269a", func := "roundhouse/roundhouselaw04.CoresAssign", spec := "coresAssign", unfollowed := true, recurses := true, apart := false }
def CoresAssignSaid : Prop := coresAssignRow.holds Try.pinned (OpenSpec.ofChange coresAssignSpec)

/-- ITS FALSE NEIGHBOUR: 'it returns false'. Refute it at one input. -/
def coresAssignWrong : ChangeSpec := { name := "coresAssign", fn := fun _ => fun
  | [d1, d2] => { results := [.lit (.bool false)], args := [d1, d2] }
  | _ => none }
def CoresAssignWrongFalsely : Prop := coresAssignRow.holds Try.pinned (OpenSpec.ofChange coresAssignWrong)

/-- 'roundhouselaw04.CoresOrder': WHATEVER THE INPUT: true; the input reads as it did. -/
def coresOrderSpec : ChangeSpec := { name := "coresOrder", fn := fun _ => fun
  | [d1, d2] => { results := [.lit (.bool true)], args := [d1, d2] }
  | _ => none }
def coresOrderRow : OpenClaim := { program := "ytcefadbnmpjeiaa", sum := "3725d32d8aa31373d27f1d0c707b56a3159ab6f3e00368955fe82c9bec3d269a", func := "roundhouse/roundhouselaw04.CoresOrder", spec := "coresOrder", unfollowed := true, recurses := true, apart := false }
def CoresOrderSaid : Prop := coresOrderRow.holds Try.pinned (OpenSpec.ofChange coresOrderSpec)

/-- ITS FALSE NEIGHBOUR: 'it returns false'. Refute it at one input. -/
def coresOrderWrong : ChangeSpec := { name := "coresOrder", fn := fun _ => fun
  | [d1, d2] => { results := [.lit (.bool false)], args := [d1, d2] }
  | _ => none }
def CoresOrderWrongFalsely : Prop := coresOrderRow.holds Try.pinned (OpenSpec.ofChange coresOrderWrong)

/-- 'roundhouselaw04.CoresMore': WHATEVER THE INPUT: true; the input reads as it did. -/
def coresMoreSpec : ChangeSpec := { name := "coresMore", fn := fun _ => fun
  | [d1, d2, d3] => { results := [.lit (.bool true)], args := [d1, d2, d3] }
  | _ => none }
def coresMoreRow : OpenClaim := { program := "ytcefadbnmpjeiaa", sum := "3725d32d8aa31373d27f1d0c707b56a3159ab6f3e00368955fe82c9bec3d269a", func := "roundhouse/roundhouselaw04.CoresMore", spec := "coresMore", unfollowed := true, recurses := true, apart := false }
def CoresMoreSaid : Prop := coresMoreRow.holds Try.pinned (OpenSpec.ofChange coresMoreSpec)

/-- ITS FALSE NEIGHBOUR: 'it returns false'. Refute it at one input. -/
def coresMoreWrong : ChangeSpec := { name := "coresMore", fn := fun _ => fun
  | [d1, d2, d3] => { results := [.lit (.bool false)], args := [d1, d2, d3] }
  | _ => none }
def CoresMoreWrongFalsely : Prop := coresMoreRow.holds Try.pinned (OpenSpec.ofChange coresMoreWrong)

/-- 'roundhouselaw04.CoresApart': WHATEVER THE INPUT: true; the input reads as it did. -/
def coresApartSpec : ChangeSpec := { name := "coresApart", fn := fun _ => fun
  | [d1, d2] => { results := [.lit (.bool true)], args := [d1, d2] }
  | _ => none }
def coresApartRow : OpenClaim := { program := "ytcefadbnmpjeiaa", sum := "3725d32d8aa31373d27f1d0c707b56a3159ab6f3e00368955fe82c9bec3d269a", func := "roundhouse/roundhouselaw04.CoresApart", spec := "coresApart", unfollowed := true, recurses := true, apart := false }
def CoresApartSaid : Prop := coresApartRow.holds Try.pinned (OpenSpec.ofChange coresApartSpec)

/-- ITS FALSE NEIGHBOUR: 'it returns false'. Refute it at one input. -/
def coresApartWrong : ChangeSpec := { name := "coresApart", fn := fun _ => fun
  | [d1, d2] => { results := [.lit (.bool false)], args := [d1, d2] }
  | _ => none }
def CoresApartWrongFalsely : Prop := coresApartRow.holds Try.pinned (OpenSpec.ofChange coresApartWrong)

/-- 'roundhouselaw05.PoolScripts': WHATEVER THE INPUT: true; the input reads as it did. -/
def poolScriptsSpec : ChangeSpec := { name := "poolScripts", fn := fun _ => fun
  | [d1, d2] => { results := [.lit (.bool true)], args := [d1, d2] }
  | _ => none }
def poolScriptsRow : OpenClaim := { program := "ytcefadbnmpjeiaa", sum := "3725d32d8aa31373d27f1d0c707b56a3159ab6f3e00368955fe82c9bec3d269a", func := "roundhouse/roundhouselaw05.PoolScripts", spec := "poolScripts", unfollowed := true, recurses := true, apart := false }
def PoolScriptsSaid : Prop := poolScriptsRow.holds Try.pinned (OpenSpec.ofChange poolScriptsSpec)

/-- ITS FALSE NEIGHBOUR: 'it returns false'. Refute it at one input. -/
def poolScriptsWrong : ChangeSpec := { name := "poolScripts", fn := fun _ => fun
  | [d1, d2] => { results := [.lit (.bool false)], args := [d1, d2] }
  | _ => none }
def PoolScriptsWrongFalsely : Prop := poolScriptsRow.holds Try.pinned (OpenSpec.ofChange poolScriptsWrong)

/-- 'roundhouselaw05.PoolBack': WHATEVER THE INPUT: true; the input reads as it did. -/
def poolBackSpec : ChangeSpec := { name := "poolBack", fn := fun _ => fun
  | [d1, d2, d3] => { results := [.lit (.bool true)], args := [d1, d2, d3] }
  | _ => none }
def poolBackRow : OpenClaim := { program := "ytcefadbnmpjeiaa", sum := "3725d32d8aa31373d27f1d0c707b56a3159ab6f3e00368955fe82c9bec3d269a", func := "roundhouse/roundhouselaw05.PoolBack", spec := "poolBack", unfollowed := true, recurses := true, apart := false }
def PoolBackSaid : Prop := poolBackRow.holds Try.pinned (OpenSpec.ofChange poolBackSpec)

/-- ITS FALSE NEIGHBOUR: 'it returns false'. Refute it at one input. -/
def poolBackWrong : ChangeSpec := { name := "poolBack", fn := fun _ => fun
  | [d1, d2, d3] => { results := [.lit (.bool false)], args := [d1, d2, d3] }
  | _ => none }
def PoolBackWrongFalsely : Prop := poolBackRow.holds Try.pinned (OpenSpec.ofChange poolBackWrong)

/-- 'roundhouselaw05.PoolNil': WHATEVER THE INPUT: true; the input reads as it did. -/
def poolNilSpec : ChangeSpec := { name := "poolNil", fn := fun _ => fun
  | [d1, d2] => { results := [.lit (.bool true)], args := [d1, d2] }
  | _ => none }
def poolNilRow : OpenClaim := { program := "ytcefadbnmpjeiaa", sum := "3725d32d8aa31373d27f1d0c707b56a3159ab6f3e00368955fe82c9bec3d269a", func := "roundhouse/roundhouselaw05.PoolNil", spec := "poolNil", unfollowed := true, recurses := true, apart := false }
def PoolNilSaid : Prop := poolNilRow.holds Try.pinned (OpenSpec.ofChange poolNilSpec)

/-- ITS FALSE NEIGHBOUR: 'it returns false'. Refute it at one input. -/
def poolNilWrong : ChangeSpec := { name := "poolNil", fn := fun _ => fun
  | [d1, d2] => { results := [.lit (.bool false)], args := [d1, d2] }
  | _ => none }
def PoolNilWrongFalsely : Prop := poolNilRow.holds Try.pinned (OpenSpec.ofChange poolNilWrong)

/-- 'roundhouselaw05.PoolOwners': WHATEVER THE INPUT: true; the input reads as it did. -/
def poolOwnersSpec : ChangeSpec := { name := "poolOwners", fn := fun _ => fun
  | [d1, d2] => { results := [.lit (.bool true)], args := [d1, d2] }
  | _ => none }
def poolOwnersRow : OpenClaim := { program := "ytcefadbnmpjeiaa", sum := "3725d32d8aa31373d27f1d0c707b56a3159ab6f3e00368955fe82c9bec3d269a", func := "roundhouse/roundhouselaw05.PoolOwners", spec := "poolOwners", unfollowed := true, recurses := true, apart := false }
def PoolOwnersSaid : Prop := poolOwnersRow.holds Try.pinned (OpenSpec.ofChange poolOwnersSpec)

/-- ITS FALSE NEIGHBOUR: 'it returns false'. Refute it at one input. -/
def poolOwnersWrong : ChangeSpec := { name := "poolOwners", fn := fun _ => fun
  | [d1, d2] => { results := [.lit (.bool false)], args := [d1, d2] }
  | _ => none }
def PoolOwnersWrongFalsely : Prop := poolOwnersRow.holds Try.pinned (OpenSpec.ofChange poolOwnersWrong)

/-- 'roundhouselaw05.PoolApart': WHATEVER THE INPUT: true; the input reads as it did. -/
def poolApartSpec : ChangeSpec := { name := "poolApart", fn := fun _ => fun
  | [d1, d2] => { results := [.lit (.bool true)], args := [d1, d2] }
  | _ => none }
def poolApartRow : OpenClaim := { program := "ytcefadbnmpjeiaa", sum := "3725d32d8aa31373d27f1d0c707b56a3159ab6f3e00368955fe82c9bec3d269a", func := "roundhouse/roundhouselaw05.PoolApart", spec := "poolApart", unfollowed := true, recurses := true, apart := false }
def PoolApartSaid : Prop := poolApartRow.holds Try.pinned (OpenSpec.ofChange poolApartSpec)

/-- ITS FALSE NEIGHBOUR: 'it returns false'. Refute it at one input. -/
def poolApartWrong : ChangeSpec := { name := "poolApart", fn := fun _ => fun
  | [d1, d2] => { results := [.lit (.bool false)], args := [d1, d2] }
  | _ => none }
def PoolApartWrongFalsely : Prop := poolApartRow.holds Try.pinned (OpenSpec.ofChange poolApartWrong)

/- THE SECOND FORM. 'bulk': how many values and letters a reading holds, each counted each time it is reached (what is shared counts as often as it is met; a slice's spare places count too). A statement '..UptoSaid' is the law's where the arguments, and the package variables that the reading takes, are together of bulk at most 1048576: NARROWER than '..Said'. Prove '..Said' where nothing that the law and all that it calls make is longer than what came in: it says more and counts as full. Else prove '..UptoSaid'. A law counts once. -/
mutual
def uptoBulk {H : Type} : DataW H → Nat
  | .lit (.string bytes) => bytes.length + 1
  | .lit _ => 1
  | .nil => 1
  | .ptr d => uptoBulk d + 1
  | .slice elems spare => uptoBulkAll elems + uptoBulkAll spare + 1
  | .agg parts => uptoBulkAll parts + 1
  | .iface _ d => uptoBulk d + 1
  | .map entries => uptoBulkEntries entries + 1
  | .held _ => 1
def uptoBulkAll {H : Type} : List (DataW H) → Nat
  | [] => 0
  | d :: r => uptoBulk d + uptoBulkAll r
def uptoBulkEntries {H : Type} : List (Lit × DataW H) → Nat
  | [] => 0
  | x :: r => uptoBulkEntry x + uptoBulkEntries r
def uptoBulkEntry {H : Type} : Lit × DataW H → Nat
  | (.string bytes, d) => bytes.length + uptoBulk d + 1
  | (_, d) => uptoBulk d + 1
 end
def uptoSmall : (H : Type) → List (DataW H) → Bool := fun _ ds => decide (uptoBulkAll ds ≤ 1048576)
def OpenSpec.upto (s : _root_.Go.ChangeSpec) : _root_.Go.OpenSpec := { _root_.Go.OpenSpec.ofChange s with cond := some uptoSmall }

/-- 'roundhouselaw04.CoresTell', WHERE WHAT IT READS IS OF BULK AT MOST 1048576: true; the input reads as it did. -/
def coresTellUptoRow : OpenClaim := { program := "ytcefadbnmpjeiaa", sum := "3725d32d8aa31373d27f1d0c707b56a3159ab6f3e00368955fe82c9bec3d269a", func := "roundhouse/roundhouselaw04.CoresTell", spec := "coresTell", unfollowed := true, recurses := true, apart := false, narrowed := true }
def CoresTellUptoSaid : Prop := coresTellUptoRow.holds Try.pinned (OpenSpec.upto coresTellSpec)

/-- 'roundhouselaw04.CoresAssign', WHERE WHAT IT READS IS OF BULK AT MOST 1048576: true; the input reads as it did. -/
def coresAssignUptoRow : OpenClaim := { program := "ytcefadbnmpjeiaa", sum := "3725d32d8aa31373d27f1d0c707b56a3159ab6f3e00368955fe82c9bec3d269a", func := "roundhouse/roundhouselaw04.CoresAssign", spec := "coresAssign", unfollowed := true, recurses := true, apart := false, narrowed := true }
def CoresAssignUptoSaid : Prop := coresAssignUptoRow.holds Try.pinned (OpenSpec.upto coresAssignSpec)

/-- 'roundhouselaw04.CoresOrder', WHERE WHAT IT READS IS OF BULK AT MOST 1048576: true; the input reads as it did. -/
def coresOrderUptoRow : OpenClaim := { program := "ytcefadbnmpjeiaa", sum := "3725d32d8aa31373d27f1d0c707b56a3159ab6f3e00368955fe82c9bec3d269a", func := "roundhouse/roundhouselaw04.CoresOrder", spec := "coresOrder", unfollowed := true, recurses := true, apart := false, narrowed := true }
def CoresOrderUptoSaid : Prop := coresOrderUptoRow.holds Try.pinned (OpenSpec.upto coresOrderSpec)

/-- 'roundhouselaw04.CoresMore', WHERE WHAT IT READS IS OF BULK AT MOST 1048576: true; the input reads as it did. -/
def coresMoreUptoRow : OpenClaim := { program := "ytcefadbnmpjeiaa", sum := "3725d32d8aa31373d27f1d0c707b56a3159ab6f3e00368955fe82c9bec3d269a", func := "roundhouse/roundhouselaw04.CoresMore", spec := "coresMore", unfollowed := true, recurses := true, apart := false, narrowed := true }
def CoresMoreUptoSaid : Prop := coresMoreUptoRow.holds Try.pinned (OpenSpec.upto coresMoreSpec)

/-- 'roundhouselaw04.CoresApart', WHERE WHAT IT READS IS OF BULK AT MOST 1048576: true; the input reads as it did. -/
def coresApartUptoRow : OpenClaim := { program := "ytcefadbnmpjeiaa", sum := "3725d32d8aa31373d27f1d0c707b56a3159ab6f3e00368955fe82c9bec3d269a", func := "roundhouse/roundhouselaw04.CoresApart", spec := "coresApart", unfollowed := true, recurses := true, apart := false, narrowed := true }
def CoresApartUptoSaid : Prop := coresApartUptoRow.holds Try.pinned (OpenSpec.upto coresApartSpec)

/-- 'roundhouselaw05.PoolScripts', WHERE WHAT IT READS IS OF BULK AT MOST 1048576: true; the input reads as it did. -/
def poolScriptsUptoRow : OpenClaim := { program := "ytcefadbnmpjeiaa", sum := "3725d32d8aa31373d27f1d0c707b56a3159ab6f3e00368955fe82c9bec3d269a", func := "roundhouse/roundhouselaw05.PoolScripts", spec := "poolScripts", unfollowed := true, recurses := true, apart := false, narrowed := true }
def PoolScriptsUptoSaid : Prop := poolScriptsUptoRow.holds Try.pinned (OpenSpec.upto poolScriptsSpec)

/-- 'roundhouselaw05.PoolBack', WHERE WHAT IT READS IS OF BULK AT MOST 1048576: true; the input reads as it did. -/
def poolBackUptoRow : OpenClaim := { program := "ytcefadbnmpjeiaa", sum := "3725d32d8aa31373d27f1d0c707b56a3159ab6f3e00368955fe82c9bec3d269a", func := "roundhouse/roundhouselaw05.PoolBack", spec := "poolBack", unfollowed := true, recurses := true, apart := false, narrowed := true }
def PoolBackUptoSaid : Prop := poolBackUptoRow.holds Try.pinned (OpenSpec.upto poolBackSpec)

/-- 'roundhouselaw05.PoolNil', WHERE WHAT IT READS IS OF BULK AT MOST 1048576: true; the input reads as it did. -/
def poolNilUptoRow : OpenClaim := { program := "ytcefadbnmpjeiaa", sum := "3725d32d8aa31373d27f1d0c707b56a3159ab6f3e00368955fe82c9bec3d269a", func := "roundhouse/roundhouselaw05.PoolNil", spec := "poolNil", unfollowed := true, recurses := true, apart := false, narrowed := true }
def PoolNilUptoSaid : Prop := poolNilUptoRow.holds Try.pinned (OpenSpec.upto poolNilSpec)

/-- 'roundhouselaw05.PoolOwners', WHERE WHAT IT READS IS OF BULK AT MOST 1048576: true; the input reads as it did. -/
def poolOwnersUptoRow : OpenClaim := { program := "ytcefadbnmpjeiaa", sum := "3725d32d8aa31373d27f1d0c707b56a3159ab6f3e00368955fe82c9bec3d269a", func := "roundhouse/roundhouselaw05.PoolOwners", spec := "poolOwners", unfollowed := true, recurses := true, apart := false, narrowed := true }
def PoolOwnersUptoSaid : Prop := poolOwnersUptoRow.holds Try.pinned (OpenSpec.upto poolOwnersSpec)

/-- 'roundhouselaw05.PoolApart', WHERE WHAT IT READS IS OF BULK AT MOST 1048576: true; the input reads as it did. -/
def poolApartUptoRow : OpenClaim := { program := "ytcefadbnmpjeiaa", sum := "3725d32d8aa31373d27f1d0c707b56a3159ab6f3e00368955fe82c9bec3d269a", func := "roundhouse/roundhouselaw05.PoolApart", spec := "poolApart", unfollowed := true, recurses := true, apart := false, narrowed := true }
def PoolApartUptoSaid : Prop := poolApartUptoRow.holds Try.pinned (OpenSpec.upto poolApartSpec)

end Rows
end Go.Proofs.Ytcefadbnmpjeiaa
