/-
  No cell of these rows narrows 'for every input' (looked for: loops, veiled, ifaces, maps, wideKeys, modest, calm, conditions, laid).
  DERIVED. THE GIVEN ROWS OF THIS SEAT. 11 by the template 'for every input the law returns true; each argument reads behind the call as it read before'; 0 by the template 'total and deterministic' (their statements: YtomoomopodihhaaTotals.lean).
  GIVEN WITH THE SEED: the statements are not yours to turn. If you find one false, say at which input.
  Laid BY PROGRAM, IN A SANDBOX (cutbox-rows.mjs): the forced cells as the released guide's own fill.sh prints them over the translation d459d62a650f8256… (all of the seat's roots in one cut). By AI agents, Wed Nov 11 2026. No macro, syntax, notation, axiom, sorry.
-/
import Derived.Test.YtomoomopodihhaaChecked
import GoSem.Claim
import GoSem.ClaimJoined
import GoSem.ClaimMapViews
import Derived.JoinedTies
import Derived.KernelRfl
namespace Go.Proofs.Ytomoomopodihhaa
/- THE CELL 'sum', in the pinned program and in every row, IS THE sha256 OF THE DUMP (.gsa) THAT YtomoomopodihhaaProg.lean LOADS. Nothing in Lean hashes anything: it is a label: what it is worth is what the hold of that sum in a sandbox is worth. -/
noncomputable def Try.pinned : Pinned := { name := "ytomoomopodihhaa", sum := "d459d62a650f8256df556f4bc7880457e85c1ba5b055c099dd881b1c9d0df932", checked := Try.checked }
namespace Rows
def none {H : Type} : Left H := { results := [], args := [] }

/-- 'roundhouselaw11.AcctTells': WHATEVER THE INPUT: true; the input reads as it did. -/
def acctTellsSpec : ChangeSpec := { name := "acctTells", fn := fun _ => fun
  | [d1, d2, d3] => { results := [.lit (.bool true)], args := [d1, d2, d3] }
  | _ => none }
def acctTellsRow : OpenClaim := { program := "ytomoomopodihhaa", sum := "d459d62a650f8256df556f4bc7880457e85c1ba5b055c099dd881b1c9d0df932", func := "roundhouse/roundhouselaw11.AcctTells", spec := "acctTells", unfollowed := true, recurses := true, apart := false }
def AcctTellsSaid : Prop := acctTellsRow.holds Try.pinned (OpenSpec.ofChange acctTellsSpec)

/-- ITS FALSE NEIGHBOUR: 'it returns false'. Refute it at one input. -/
def acctTellsWrong : ChangeSpec := { name := "acctTells", fn := fun _ => fun
  | [d1, d2, d3] => { results := [.lit (.bool false)], args := [d1, d2, d3] }
  | _ => none }
def AcctTellsWrongFalsely : Prop := acctTellsRow.holds Try.pinned (OpenSpec.ofChange acctTellsWrong)

/-- 'roundhouselaw11.AcctBooks': WHATEVER THE INPUT: true; the input reads as it did. -/
def acctBooksSpec : ChangeSpec := { name := "acctBooks", fn := fun _ => fun
  | [d] => { results := [.lit (.bool true)], args := [d] }
  | _ => none }
def acctBooksRow : OpenClaim := { program := "ytomoomopodihhaa", sum := "d459d62a650f8256df556f4bc7880457e85c1ba5b055c099dd881b1c9d0df932", func := "roundhouse/roundhouselaw11.AcctBooks", spec := "acctBooks", unfollowed := true, recurses := true, apart := false }
def AcctBooksSaid : Prop := acctBooksRow.holds Try.pinned (OpenSpec.ofChange acctBooksSpec)

/-- ITS FALSE NEIGHBOUR: 'it returns false'. Refute it at one input. -/
def acctBooksWrong : ChangeSpec := { name := "acctBooks", fn := fun _ => fun
  | [d] => { results := [.lit (.bool false)], args := [d] }
  | _ => none }
def AcctBooksWrongFalsely : Prop := acctBooksRow.holds Try.pinned (OpenSpec.ofChange acctBooksWrong)

/-- 'roundhouselaw11.AcctRises': WHATEVER THE INPUT: true; the input reads as it did. -/
def acctRisesSpec : ChangeSpec := { name := "acctRises", fn := fun _ => fun
  | [d] => { results := [.lit (.bool true)], args := [d] }
  | _ => none }
def acctRisesRow : OpenClaim := { program := "ytomoomopodihhaa", sum := "d459d62a650f8256df556f4bc7880457e85c1ba5b055c099dd881b1c9d0df932", func := "roundhouse/roundhouselaw11.AcctRises", spec := "acctRises", unfollowed := true, recurses := true, apart := false }
def AcctRisesSaid : Prop := acctRisesRow.holds Try.pinned (OpenSpec.ofChange acctRisesSpec)

/-- ITS FALSE NEIGHBOUR: 'it returns false'. Refute it at one input. -/
def acctRisesWrong : ChangeSpec := { name := "acctRises", fn := fun _ => fun
  | [d] => { results := [.lit (.bool false)], args := [d] }
  | _ => none }
def AcctRisesWrongFalsely : Prop := acctRisesRow.holds Try.pinned (OpenSpec.ofChange acctRisesWrong)

/-- 'roundhouselaw11.AcctSplit': WHATEVER THE INPUT: true; the input reads as it did. -/
def acctSplitSpec : ChangeSpec := { name := "acctSplit", fn := fun _ => fun
  | [d1, d2, d3] => { results := [.lit (.bool true)], args := [d1, d2, d3] }
  | _ => none }
def acctSplitRow : OpenClaim := { program := "ytomoomopodihhaa", sum := "d459d62a650f8256df556f4bc7880457e85c1ba5b055c099dd881b1c9d0df932", func := "roundhouse/roundhouselaw11.AcctSplit", spec := "acctSplit", unfollowed := true, recurses := true, apart := false }
def AcctSplitSaid : Prop := acctSplitRow.holds Try.pinned (OpenSpec.ofChange acctSplitSpec)

/-- ITS FALSE NEIGHBOUR: 'it returns false'. Refute it at one input. -/
def acctSplitWrong : ChangeSpec := { name := "acctSplit", fn := fun _ => fun
  | [d1, d2, d3] => { results := [.lit (.bool false)], args := [d1, d2, d3] }
  | _ => none }
def AcctSplitWrongFalsely : Prop := acctSplitRow.holds Try.pinned (OpenSpec.ofChange acctSplitWrong)

/-- 'roundhouselaw11.AcctNil': WHATEVER THE INPUT: true; the input reads as it did. -/
def acctNilSpec : ChangeSpec := { name := "acctNil", fn := fun _ => fun
  | [d] => { results := [.lit (.bool true)], args := [d] }
  | _ => none }
def acctNilRow : OpenClaim := { program := "ytomoomopodihhaa", sum := "d459d62a650f8256df556f4bc7880457e85c1ba5b055c099dd881b1c9d0df932", func := "roundhouse/roundhouselaw11.AcctNil", spec := "acctNil", unfollowed := true, recurses := true, apart := false }
def AcctNilSaid : Prop := acctNilRow.holds Try.pinned (OpenSpec.ofChange acctNilSpec)

/-- ITS FALSE NEIGHBOUR: 'it returns false'. Refute it at one input. -/
def acctNilWrong : ChangeSpec := { name := "acctNil", fn := fun _ => fun
  | [d] => { results := [.lit (.bool false)], args := [d] }
  | _ => none }
def AcctNilWrongFalsely : Prop := acctNilRow.holds Try.pinned (OpenSpec.ofChange acctNilWrong)

/-- 'roundhouselaw11.AcctMost': WHATEVER THE INPUT: true; the input reads as it did. -/
def acctMostSpec : ChangeSpec := { name := "acctMost", fn := fun _ => fun
  | [d1, d2, d3] => { results := [.lit (.bool true)], args := [d1, d2, d3] }
  | _ => none }
def acctMostRow : OpenClaim := { program := "ytomoomopodihhaa", sum := "d459d62a650f8256df556f4bc7880457e85c1ba5b055c099dd881b1c9d0df932", func := "roundhouse/roundhouselaw11.AcctMost", spec := "acctMost", unfollowed := true, recurses := true, apart := false }
def AcctMostSaid : Prop := acctMostRow.holds Try.pinned (OpenSpec.ofChange acctMostSpec)

/-- ITS FALSE NEIGHBOUR: 'it returns false'. Refute it at one input. -/
def acctMostWrong : ChangeSpec := { name := "acctMost", fn := fun _ => fun
  | [d1, d2, d3] => { results := [.lit (.bool false)], args := [d1, d2, d3] }
  | _ => none }
def AcctMostWrongFalsely : Prop := acctMostRow.holds Try.pinned (OpenSpec.ofChange acctMostWrong)

/-- 'roundhouselaw12.ProcsHeld': WHATEVER THE INPUT: true; the input reads as it did. -/
def procsHeldSpec : ChangeSpec := { name := "procsHeld", fn := fun _ => fun
  | [d] => { results := [.lit (.bool true)], args := [d] }
  | _ => none }
def procsHeldRow : OpenClaim := { program := "ytomoomopodihhaa", sum := "d459d62a650f8256df556f4bc7880457e85c1ba5b055c099dd881b1c9d0df932", func := "roundhouse/roundhouselaw12.ProcsHeld", spec := "procsHeld", unfollowed := true, recurses := true, apart := false }
def ProcsHeldSaid : Prop := procsHeldRow.holds Try.pinned (OpenSpec.ofChange procsHeldSpec)

/-- ITS FALSE NEIGHBOUR: 'it returns false'. Refute it at one input. -/
def procsHeldWrong : ChangeSpec := { name := "procsHeld", fn := fun _ => fun
  | [d] => { results := [.lit (.bool false)], args := [d] }
  | _ => none }
def ProcsHeldWrongFalsely : Prop := procsHeldRow.holds Try.pinned (OpenSpec.ofChange procsHeldWrong)

/-- 'roundhouselaw12.ProcsPids': WHATEVER THE INPUT: true; the input reads as it did. -/
def procsPidsSpec : ChangeSpec := { name := "procsPids", fn := fun _ => fun
  | [d] => { results := [.lit (.bool true)], args := [d] }
  | _ => none }
def procsPidsRow : OpenClaim := { program := "ytomoomopodihhaa", sum := "d459d62a650f8256df556f4bc7880457e85c1ba5b055c099dd881b1c9d0df932", func := "roundhouse/roundhouselaw12.ProcsPids", spec := "procsPids", unfollowed := true, recurses := true, apart := false }
def ProcsPidsSaid : Prop := procsPidsRow.holds Try.pinned (OpenSpec.ofChange procsPidsSpec)

/-- ITS FALSE NEIGHBOUR: 'it returns false'. Refute it at one input. -/
def procsPidsWrong : ChangeSpec := { name := "procsPids", fn := fun _ => fun
  | [d] => { results := [.lit (.bool false)], args := [d] }
  | _ => none }
def ProcsPidsWrongFalsely : Prop := procsPidsRow.holds Try.pinned (OpenSpec.ofChange procsPidsWrong)

/-- 'roundhouselaw12.ProcsGone': WHATEVER THE INPUT: true; the input reads as it did. -/
def procsGoneSpec : ChangeSpec := { name := "procsGone", fn := fun _ => fun
  | [d1, d2] => { results := [.lit (.bool true)], args := [d1, d2] }
  | _ => none }
def procsGoneRow : OpenClaim := { program := "ytomoomopodihhaa", sum := "d459d62a650f8256df556f4bc7880457e85c1ba5b055c099dd881b1c9d0df932", func := "roundhouse/roundhouselaw12.ProcsGone", spec := "procsGone", unfollowed := true, recurses := true, apart := false }
def ProcsGoneSaid : Prop := procsGoneRow.holds Try.pinned (OpenSpec.ofChange procsGoneSpec)

/-- ITS FALSE NEIGHBOUR: 'it returns false'. Refute it at one input. -/
def procsGoneWrong : ChangeSpec := { name := "procsGone", fn := fun _ => fun
  | [d1, d2] => { results := [.lit (.bool false)], args := [d1, d2] }
  | _ => none }
def ProcsGoneWrongFalsely : Prop := procsGoneRow.holds Try.pinned (OpenSpec.ofChange procsGoneWrong)

/-- 'roundhouselaw12.ProcsSignals': WHATEVER THE INPUT: true; the input reads as it did. -/
def procsSignalsSpec : ChangeSpec := { name := "procsSignals", fn := fun _ => fun
  | [d] => { results := [.lit (.bool true)], args := [d] }
  | _ => none }
def procsSignalsRow : OpenClaim := { program := "ytomoomopodihhaa", sum := "d459d62a650f8256df556f4bc7880457e85c1ba5b055c099dd881b1c9d0df932", func := "roundhouse/roundhouselaw12.ProcsSignals", spec := "procsSignals", unfollowed := true, recurses := true, apart := false }
def ProcsSignalsSaid : Prop := procsSignalsRow.holds Try.pinned (OpenSpec.ofChange procsSignalsSpec)

/-- ITS FALSE NEIGHBOUR: 'it returns false'. Refute it at one input. -/
def procsSignalsWrong : ChangeSpec := { name := "procsSignals", fn := fun _ => fun
  | [d] => { results := [.lit (.bool false)], args := [d] }
  | _ => none }
def ProcsSignalsWrongFalsely : Prop := procsSignalsRow.holds Try.pinned (OpenSpec.ofChange procsSignalsWrong)

/-- 'roundhouselaw12.ProcsNil': WHATEVER THE INPUT: true; the input reads as it did. -/
def procsNilSpec : ChangeSpec := { name := "procsNil", fn := fun _ => fun
  | [d] => { results := [.lit (.bool true)], args := [d] }
  | _ => none }
def procsNilRow : OpenClaim := { program := "ytomoomopodihhaa", sum := "d459d62a650f8256df556f4bc7880457e85c1ba5b055c099dd881b1c9d0df932", func := "roundhouse/roundhouselaw12.ProcsNil", spec := "procsNil", unfollowed := true, recurses := true, apart := false }
def ProcsNilSaid : Prop := procsNilRow.holds Try.pinned (OpenSpec.ofChange procsNilSpec)

/-- ITS FALSE NEIGHBOUR: 'it returns false'. Refute it at one input. -/
def procsNilWrong : ChangeSpec := { name := "procsNil", fn := fun _ => fun
  | [d] => { results := [.lit (.bool false)], args := [d] }
  | _ => none }
def ProcsNilWrongFalsely : Prop := procsNilRow.holds Try.pinned (OpenSpec.ofChange procsNilWrong)

/- THE SECOND FORM. 'bulk': how many values and letters a reading holds, each counted each time it is reached (what is shared counts as often as it is met; a slice's spare places count too). A statement '..UptoSaid' is the law's where the arguments, and the package variables that the reading takes, are together of bulk at most 1048576: NARROWER than '..Said'. Prove '..Said' where nothing that the law and all that it calls make is longer than what came in: it says more and counts as full. Else prove '..UptoSaid'. A law counts once. -/
mutual
def uptoBulk {H : Type} : DataW H → Nat
  | .lit (.string bytes) => bytes.length + 1
  | .lit _ => 1
  | .nil => 1
  | .ptr d => uptoBulk d + 1
  | .slice elems spare => uptoBulkAll elems + uptoBulkAll spare + 1
  | .agg parts => uptoBulkAll parts + 1
  | .iface _ d => uptoBulk d + 1
  | .map entries => uptoBulkEntries entries + 1
  | .held _ => 1
def uptoBulkAll {H : Type} : List (DataW H) → Nat
  | [] => 0
  | d :: r => uptoBulk d + uptoBulkAll r
def uptoBulkEntries {H : Type} : List (Lit × DataW H) → Nat
  | [] => 0
  | x :: r => uptoBulkEntry x + uptoBulkEntries r
def uptoBulkEntry {H : Type} : Lit × DataW H → Nat
  | (.string bytes, d) => bytes.length + uptoBulk d + 1
  | (_, d) => uptoBulk d + 1
 end
def uptoSmall : (H : Type) → List (DataW H) → Bool := fun _ ds => decide (uptoBulkAll ds ≤ 1048576)
def OpenSpec.upto (s : _root_.Go.ChangeSpec) : _root_.Go.OpenSpec := { _root_.Go.OpenSpec.ofChange s with cond := some uptoSmall }

/-- 'roundhouselaw11.AcctTells', WHERE WHAT IT READS IS OF BULK AT MOST 1048576: true; the input reads as it did. -/
def acctTellsUptoRow : OpenClaim := { program := "ytomoomopodihhaa", sum := "d459d62a650f8256df556f4bc7880457e85c1ba5b055c099dd881b1c9d0df932", func := "roundhouse/roundhouselaw11.AcctTells", spec := "acctTells", unfollowed := true, recurses := true, apart := false, narrowed := true }
def AcctTellsUptoSaid : Prop := acctTellsUptoRow.holds Try.pinned (OpenSpec.upto acctTellsSpec)

/-- 'roundhouselaw11.AcctBooks', WHERE WHAT IT READS IS OF BULK AT MOST 1048576: true; the input reads as it did. -/
def acctBooksUptoRow : OpenClaim := { program := "ytomoomopodihhaa", sum := "d459d62a650f8256df556f4bc7880457e85c1ba5b055c099dd881b1c9d0df932", func := "roundhouse/roundhouselaw11.AcctBooks", spec := "acctBooks", unfollowed := true, recurses := true, apart := false, narrowed := true }
def AcctBooksUptoSaid : Prop := acctBooksUptoRow.holds Try.pinned (OpenSpec.upto acctBooksSpec)

/-- 'roundhouselaw11.AcctRises', WHERE WHAT IT READS IS OF BULK AT MOST 1048576: true; the input reads as it did. -/
def acctRisesUptoRow : OpenClaim := { program := "ytomoomopodihhaa", sum := "d459d62a650f8256df556f4bc7880457e85c1ba5b055c099dd881b1c9d0df932", func := "roundhouse/roundhouselaw11.AcctRises", spec := "acctRises", unfollowed := true, recurses := true, apart := false, narrowed := true }
def AcctRisesUptoSaid : Prop := acctRisesUptoRow.holds Try.pinned (OpenSpec.upto acctRisesSpec)

/-- 'roundhouselaw11.AcctSplit', WHERE WHAT IT READS IS OF BULK AT MOST 1048576: true; the input reads as it did. -/
def acctSplitUptoRow : OpenClaim := { program := "ytomoomopodihhaa", sum := "d459d62a650f8256df556f4bc7880457e85c1ba5b055c099dd881b1c9d0df932", func := "roundhouse/roundhouselaw11.AcctSplit", spec := "acctSplit", unfollowed := true, recurses := true, apart := false, narrowed := true }
def AcctSplitUptoSaid : Prop := acctSplitUptoRow.holds Try.pinned (OpenSpec.upto acctSplitSpec)

/-- 'roundhouselaw11.AcctNil', WHERE WHAT IT READS IS OF BULK AT MOST 1048576: true; the input reads as it did. -/
def acctNilUptoRow : OpenClaim := { program := "ytomoomopodihhaa", sum := "d459d62a650f8256df556f4bc7880457e85c1ba5b055c099dd881b1c9d0df932", func := "roundhouse/roundhouselaw11.AcctNil", spec := "acctNil", unfollowed := true, recurses := true, apart := false, narrowed := true }
def AcctNilUptoSaid : Prop := acctNilUptoRow.holds Try.pinned (OpenSpec.upto acctNilSpec)

/-- 'roundhouselaw11.AcctMost', WHERE WHAT IT READS IS OF BULK AT MOST 1048576: true; the input reads as it did. -/
def acctMostUptoRow : OpenClaim := { program := "ytomoomopodihhaa", sum := "d459d62a650f8256df556f4bc7880457e85c1ba5b055c099dd881b1c9d0df932", func := "roundhouse/roundhouselaw11.AcctMost", spec := "acctMost", unfollowed := true, recurses := true, apart := false, narrowed := true }
def AcctMostUptoSaid : Prop := acctMostUptoRow.holds Try.pinned (OpenSpec.upto acctMostSpec)

/-- 'roundhouselaw12.ProcsHeld', WHERE WHAT IT READS IS OF BULK AT MOST 1048576: true; the input reads as it did. -/
def procsHeldUptoRow : OpenClaim := { program := "ytomoomopodihhaa", sum := "d459d62a650f8256df556f4bc7880457e85c1ba5b055c099dd881b1c9d0df932", func := "roundhouse/roundhouselaw12.ProcsHeld", spec := "procsHeld", unfollowed := true, recurses := true, apart := false, narrowed := true }
def ProcsHeldUptoSaid : Prop := procsHeldUptoRow.holds Try.pinned (OpenSpec.upto procsHeldSpec)

/-- 'roundhouselaw12.ProcsPids', WHERE WHAT IT READS IS OF BULK AT MOST 1048576: true; the input reads as it did. -/
def procsPidsUptoRow : OpenClaim := { program := "ytomoomopodihhaa", sum := "d459d62a650f8256df556f4bc7880457e85c1ba5b055c099dd881b1c9d0df932", func := "roundhouse/roundhouselaw12.ProcsPids", spec := "procsPids", unfollowed := true, recurses := true, apart := false, narrowed := true }
def ProcsPidsUptoSaid : Prop := procsPidsUptoRow.holds Try.pinned (OpenSpec.upto procsPidsSpec)

/-- 'roundhouselaw12.ProcsGone', WHERE WHAT IT READS IS OF BULK AT MOST 1048576: true; the input reads as it did. -/
def procsGoneUptoRow : OpenClaim := { program := "ytomoomopodihhaa", sum := "d459d62a650f8256df556f4bc7880457e85c1ba5b055c099dd881b1c9d0df932", func := "roundhouse/roundhouselaw12.ProcsGone", spec := "procsGone", unfollowed := true, recurses := true, apart := false, narrowed := true }
def ProcsGoneUptoSaid : Prop := procsGoneUptoRow.holds Try.pinned (OpenSpec.upto procsGoneSpec)

/-- 'roundhouselaw12.ProcsSignals', WHERE WHAT IT READS IS OF BULK AT MOST 1048576: true; the input reads as it did. -/
def procsSignalsUptoRow : OpenClaim := { program := "ytomoomopodihhaa", sum := "d459d62a650f8256df556f4bc7880457e85c1ba5b055c099dd881b1c9d0df932", func := "roundhouse/roundhouselaw12.ProcsSignals", spec := "procsSignals", unfollowed := true, recurses := true, apart := false, narrowed := true }
def ProcsSignalsUptoSaid : Prop := procsSignalsUptoRow.holds Try.pinned (OpenSpec.upto procsSignalsSpec)

/-- 'roundhouselaw12.ProcsNil', WHERE WHAT IT READS IS OF BULK AT MOST 1048576: true; the input reads as it did. -/
def procsNilUptoRow : OpenClaim := { program := "ytomoomopodihhaa", sum := "d459d62a650f8256df556f4bc7880457e85c1ba5b055c099dd881b1c9d0df932", func := "roundhouse/roundhouselaw12.ProcsNil", spec := "procsNil", unfollowed := true, recurses := true, apart := false, narrowed := true }
def ProcsNilUptoSaid : Prop := procsNilUptoRow.holds Try.pinned (OpenSpec.upto procsNilSpec)

end Rows
end Go.Proofs.Ytomoomopodihhaa
