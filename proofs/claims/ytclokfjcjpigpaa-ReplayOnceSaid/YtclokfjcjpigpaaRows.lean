/-
  No cell of these rows narrows 'for every input' (looked for: loops, veiled, ifaces, maps, wideKeys, modest, calm, conditions, laid).
  DERIVED. THE GIVEN ROWS OF THIS SEAT. 5 by the template 'for every input the law returns true; each argument reads behind the call as it read before'; 0 by the template 'total and deterministic' (their statements: YtclokfjcjpigpaaTotals.lean).
  GIVEN WITH THE SEED: the statements are not yours to turn. If you find one false, say at which input.
  Laid BY PROGRAM, IN A SANDBOX (cutbox-rows.mjs): the forced cells as the released guide's own fill.sh prints them over the translation fc528ecf092ade2b… (all of the seat's roots in one cut). By AI agents, Wed Nov 11 2026. No macro, syntax, notation, axiom, sorry.
-/
import Derived.Test.YtclokfjcjpigpaaChecked
import GoSem.Claim
import GoSem.ClaimJoined
import GoSem.ClaimMapViews
import Derived.JoinedTies
import Derived.KernelRfl
namespace Go.Proofs.Ytclokfjcjpigpaa
/- THE CELL 'sum', in the pinned program and in every row, IS THE sha256 OF THE DUMP (.gsa) THAT YtclokfjcjpigpaaProg.lean LOADS. Nothing in Lean hashes anything: it is a label: what it is worth is what the hold of that sum in a sandbox is worth. -/
noncomputable def Try.pinned : Pinned := { name := "ytclokfjcjpigpaa", sum := "fc528ecf092ade2b409dd117fda3c75d7a2ba9c3bfaf30da38e0b0aa0c60026a", checked := Try.checked }
namespace Rows
def none {H : Type} : Left H := { results := [], args := [] }

/-- 'roundhouselaw07.ReplayScripts': WHATEVER THE INPUT: true; the input reads as it did. -/
def replayScriptsSpec : ChangeSpec := { name := "replayScripts", fn := fun _ => fun
  | [d1, d2] => { results := [.lit (.bool true)], args := [d1, d2] }
  | _ => none }
def replayScriptsRow : OpenClaim := { program := "ytclokfjcjpigpaa", sum := "fc528ecf092ade2b409dd117fda3c75d7a2ba9c3bfaf30da38e0b0aa0c60026a", func := "roundhouse/roundhouselaw07.ReplayScripts", spec := "replayScripts", unfollowed := true, recurses := true, plainKeys := false, apart := false }
def ReplayScriptsSaid : Prop := replayScriptsRow.holds Try.pinned (OpenSpec.ofChange replayScriptsSpec)

/-- ITS FALSE NEIGHBOUR: 'it returns false'. Refute it at one input. -/
def replayScriptsWrong : ChangeSpec := { name := "replayScripts", fn := fun _ => fun
  | [d1, d2] => { results := [.lit (.bool false)], args := [d1, d2] }
  | _ => none }
def ReplayScriptsWrongFalsely : Prop := replayScriptsRow.holds Try.pinned (OpenSpec.ofChange replayScriptsWrong)

/-- 'roundhouselaw07.ReplayOnce': WHATEVER THE INPUT: true; the input reads as it did. -/
def replayOnceSpec : ChangeSpec := { name := "replayOnce", fn := fun _ => fun
  | [d] => { results := [.lit (.bool true)], args := [d] }
  | _ => none }
def replayOnceRow : OpenClaim := { program := "ytclokfjcjpigpaa", sum := "fc528ecf092ade2b409dd117fda3c75d7a2ba9c3bfaf30da38e0b0aa0c60026a", func := "roundhouse/roundhouselaw07.ReplayOnce", spec := "replayOnce", unfollowed := true, recurses := true, plainKeys := false, apart := false }
def ReplayOnceSaid : Prop := replayOnceRow.holds Try.pinned (OpenSpec.ofChange replayOnceSpec)

/-- ITS FALSE NEIGHBOUR: 'it returns false'. Refute it at one input. -/
def replayOnceWrong : ChangeSpec := { name := "replayOnce", fn := fun _ => fun
  | [d] => { results := [.lit (.bool false)], args := [d] }
  | _ => none }
def ReplayOnceWrongFalsely : Prop := replayOnceRow.holds Try.pinned (OpenSpec.ofChange replayOnceWrong)

/-- 'roundhouselaw07.ReplayBack': WHATEVER THE INPUT: true; the input reads as it did. -/
def replayBackSpec : ChangeSpec := { name := "replayBack", fn := fun _ => fun
  | [d] => { results := [.lit (.bool true)], args := [d] }
  | _ => none }
def replayBackRow : OpenClaim := { program := "ytclokfjcjpigpaa", sum := "fc528ecf092ade2b409dd117fda3c75d7a2ba9c3bfaf30da38e0b0aa0c60026a", func := "roundhouse/roundhouselaw07.ReplayBack", spec := "replayBack", unfollowed := true, recurses := true, plainKeys := false, apart := false }
def ReplayBackSaid : Prop := replayBackRow.holds Try.pinned (OpenSpec.ofChange replayBackSpec)

/-- ITS FALSE NEIGHBOUR: 'it returns false'. Refute it at one input. -/
def replayBackWrong : ChangeSpec := { name := "replayBack", fn := fun _ => fun
  | [d] => { results := [.lit (.bool false)], args := [d] }
  | _ => none }
def ReplayBackWrongFalsely : Prop := replayBackRow.holds Try.pinned (OpenSpec.ofChange replayBackWrong)

/-- 'roundhouselaw07.ReplayNil': WHATEVER THE INPUT: true; the input reads as it did. -/
def replayNilSpec : ChangeSpec := { name := "replayNil", fn := fun _ => fun
  | [d1, d2] => { results := [.lit (.bool true)], args := [d1, d2] }
  | _ => none }
def replayNilRow : OpenClaim := { program := "ytclokfjcjpigpaa", sum := "fc528ecf092ade2b409dd117fda3c75d7a2ba9c3bfaf30da38e0b0aa0c60026a", func := "roundhouse/roundhouselaw07.ReplayNil", spec := "replayNil", unfollowed := true, recurses := true, plainKeys := false, apart := false }
def ReplayNilSaid : Prop := replayNilRow.holds Try.pinned (OpenSpec.ofChange replayNilSpec)

/-- ITS FALSE NEIGHBOUR: 'it returns false'. Refute it at one input. -/
def replayNilWrong : ChangeSpec := { name := "replayNil", fn := fun _ => fun
  | [d1, d2] => { results := [.lit (.bool false)], args := [d1, d2] }
  | _ => none }
def ReplayNilWrongFalsely : Prop := replayNilRow.holds Try.pinned (OpenSpec.ofChange replayNilWrong)

/-- 'roundhouselaw07.ReplayRoom': WHATEVER THE INPUT: true; the input reads as it did. -/
def replayRoomSpec : ChangeSpec := { name := "replayRoom", fn := fun _ => fun
  | [d1, d2, d3] => { results := [.lit (.bool true)], args := [d1, d2, d3] }
  | _ => none }
def replayRoomRow : OpenClaim := { program := "ytclokfjcjpigpaa", sum := "fc528ecf092ade2b409dd117fda3c75d7a2ba9c3bfaf30da38e0b0aa0c60026a", func := "roundhouse/roundhouselaw07.ReplayRoom", spec := "replayRoom", unfollowed := true, recurses := true, plainKeys := false, apart := false }
def ReplayRoomSaid : Prop := replayRoomRow.holds Try.pinned (OpenSpec.ofChange replayRoomSpec)

/-- ITS FALSE NEIGHBOUR: 'it returns false'. Refute it at one input. -/
def replayRoomWrong : ChangeSpec := { name := "replayRoom", fn := fun _ => fun
  | [d1, d2, d3] => { results := [.lit (.bool false)], args := [d1, d2, d3] }
  | _ => none }
def ReplayRoomWrongFalsely : Prop := replayRoomRow.holds Try.pinned (OpenSpec.ofChange replayRoomWrong)

/- THE SECOND FORM. 'bulk': how many values and letters a reading holds, each counted each time it is reached (what is shared counts as often as it is met; a slice's spare places count too). A statement '..UptoSaid' is the law's where the arguments, and the package variables that the reading takes, are together of bulk at most 1048576: NARROWER than '..Said'. Prove '..Said' where nothing that the law and all that it calls make is longer than what came in: it says more and counts as full. Else prove '..UptoSaid'. A law counts once. -/
mutual
def uptoBulk {H : Type} : DataW H → Nat
  | .lit (.string bytes) => bytes.length + 1
  | .lit _ => 1
  | .nil => 1
  | .ptr d => uptoBulk d + 1
  | .slice elems spare => uptoBulkAll elems + uptoBulkAll spare + 1
  | .agg parts => uptoBulkAll parts + 1
  | .iface _ d => uptoBulk d + 1
  | .map entries => uptoBulkEntries entries + 1
  | .held _ => 1
def uptoBulkAll {H : Type} : List (DataW H) → Nat
  | [] => 0
  | d :: r => uptoBulk d + uptoBulkAll r
def uptoBulkEntries {H : Type} : List (Lit × DataW H) → Nat
  | [] => 0
  | x :: r => uptoBulkEntry x + uptoBulkEntries r
def uptoBulkEntry {H : Type} : Lit × DataW H → Nat
  | (.string bytes, d) => bytes.length + uptoBulk d + 1
  | (_, d) => uptoBulk d + 1
 end
def uptoSmall : (H : Type) → List (DataW H) → Bool := fun _ ds => decide (uptoBulkAll ds ≤ 1048576)
def OpenSpec.upto (s : _root_.Go.ChangeSpec) : _root_.Go.OpenSpec := { _root_.Go.OpenSpec.ofChange s with cond := some uptoSmall }

/-- 'roundhouselaw07.ReplayScripts', WHERE WHAT IT READS IS OF BULK AT MOST 1048576: true; the input reads as it did. -/
def replayScriptsUptoRow : OpenClaim := { program := "ytclokfjcjpigpaa", sum := "fc528ecf092ade2b409dd117fda3c75d7a2ba9c3bfaf30da38e0b0aa0c60026a", func := "roundhouse/roundhouselaw07.ReplayScripts", spec := "replayScripts", unfollowed := true, recurses := true, plainKeys := false, apart := false, narrowed := true }
def ReplayScriptsUptoSaid : Prop := replayScriptsUptoRow.holds Try.pinned (OpenSpec.upto replayScriptsSpec)

/-- 'roundhouselaw07.ReplayOnce', WHERE WHAT IT READS IS OF BULK AT MOST 1048576: true; the input reads as it did. -/
def replayOnceUptoRow : OpenClaim := { program := "ytclokfjcjpigpaa", sum := "fc528ecf092ade2b409dd117fda3c75d7a2ba9c3bfaf30da38e0b0aa0c60026a", func := "roundhouse/roundhouselaw07.ReplayOnce", spec := "replayOnce", unfollowed := true, recurses := true, plainKeys := false, apart := false, narrowed := true }
def ReplayOnceUptoSaid : Prop := replayOnceUptoRow.holds Try.pinned (OpenSpec.upto replayOnceSpec)

/-- 'roundhouselaw07.ReplayBack', WHERE WHAT IT READS IS OF BULK AT MOST 1048576: true; the input reads as it did. -/
def replayBackUptoRow : OpenClaim := { program := "ytclokfjcjpigpaa", sum := "fc528ecf092ade2b409dd117fda3c75d7a2ba9c3bfaf30da38e0b0aa0c60026a", func := "roundhouse/roundhouselaw07.ReplayBack", spec := "replayBack", unfollowed := true, recurses := true, plainKeys := false, apart := false, narrowed := true }
def ReplayBackUptoSaid : Prop := replayBackUptoRow.holds Try.pinned (OpenSpec.upto replayBackSpec)

/-- 'roundhouselaw07.ReplayNil', WHERE WHAT IT READS IS OF BULK AT MOST 1048576: true; the input reads as it did. -/
def replayNilUptoRow : OpenClaim := { program := "ytclokfjcjpigpaa", sum := "fc528ecf092ade2b409dd117fda3c75d7a2ba9c3bfaf30da38e0b0aa0c60026a", func := "roundhouse/roundhouselaw07.ReplayNil", spec := "replayNil", unfollowed := true, recurses := true, plainKeys := false, apart := false, narrowed := true }
def ReplayNilUptoSaid : Prop := replayNilUptoRow.holds Try.pinned (OpenSpec.upto replayNilSpec)

/-- 'roundhouselaw07.ReplayRoom', WHERE WHAT IT READS IS OF BULK AT MOST 1048576: true; the input reads as it did. -/
def replayRoomUptoRow : OpenClaim := { program := "ytclokfjcjpigpaa", sum := "fc528ecf092ade2b409dd117fda3c75d7a2ba9c3bfaf30da38e0b0aa0c60026a", func := "roundhouse/roundhouselaw07.ReplayRoom", spec := "replayRoom", unfollowed := true, recurses := true, plainKeys := false, apart := false, narrowed := true }
def ReplayRoomUptoSaid : Prop := replayRoomUptoRow.holds Try.pinned (OpenSpec.upto replayRoomSpec)

end Rows
end Go.Proofs.Ytclokfjcjpigpaa
