/-
  No cell of these rows narrows 'for every input' (looked for: loops, veiled, ifaces, maps, wideKeys, modest, calm, conditions, laid).
  DERIVED. THE GIVEN ROWS OF THIS SEAT. 4 by the template 'for every input the law returns true; each argument reads behind the call as it read before'; 0 by the template 'total and deterministic' (their statements: YtfpboambhgdeoaaTotals.lean).
  GIVEN WITH THE SEED: the statements are not yours to turn. If you find one false, say at which input.
  Laid BY PROGRAM, IN A SANDBOX (cutbox-rows.mjs): the forced cells as the released guide's own fill.sh prints them over the translation bf289541445b55fb… (all of the seat's roots in one cut). By AI agents, Wed Nov 11 2026. No macro, syntax, notation, axiom, sorry.
-/
import Derived.Test.YtfpboambhgdeoaaChecked
import GoSem.Claim
import GoSem.ClaimJoined
import GoSem.ClaimMapViews
import Derived.JoinedTies
import Derived.KernelRfl
namespace Go.Proofs.Ytfpboambhgdeoaa
/- THE CELL 'sum', in the pinned program and in every row, IS THE sha256 OF THE DUMP (.gsa) THAT YtfpboambhgdeoaaProg.lean LOADS. Nothing in Lean hashes anything: it is a label: what it is worth is what the hold of that sum in a sandbox is worth. -/
noncomputable def Try.pinned : Pinned := { name := "ytfpboambhgdeoaa", sum := "bf289541445b55fbf251acdceda604a9e9f707605a2fb97271747ce91ba323e8", checked := Try.checked }
namespace Rows
def none {H : Type} : Left H := { results := [], args := [] }

/-- 'cloisterlaw5.TicketTurn': WHATEVER THE INPUT: true; the input reads as it did. -/
def ticketTurnSpec : ChangeSpec := { name := "ticketTurn", fn := fun _ => fun
  | [d1, d2] => { results := [.lit (.bool true)], args := [d1, d2] }
  | _ => none }
def ticketTurnRow : OpenClaim := { program := "ytfpboambhgdeoaa", sum := "bf289541445b55fbf251acdceda604a9e9f707605a2fb97271747ce91ba323e8", func := "cloister/cloisterlaw5.TicketTurn", spec := "ticketTurn", apart := false }
def TicketTurnSaid : Prop := ticketTurnRow.holds Try.pinned (OpenSpec.ofChange ticketTurnSpec)

/-- ITS FALSE NEIGHBOUR: 'it returns false'. Refute it at one input. -/
def ticketTurnWrong : ChangeSpec := { name := "ticketTurn", fn := fun _ => fun
  | [d1, d2] => { results := [.lit (.bool false)], args := [d1, d2] }
  | _ => none }
def TicketTurnWrongFalsely : Prop := ticketTurnRow.holds Try.pinned (OpenSpec.ofChange ticketTurnWrong)

/-- 'cloisterlaw5.TicketPlays': WHATEVER THE INPUT: true; the input reads as it did. -/
def ticketPlaysSpec : ChangeSpec := { name := "ticketPlays", fn := fun _ => fun
  | [d1, d2] => { results := [.lit (.bool true)], args := [d1, d2] }
  | _ => none }
def ticketPlaysRow : OpenClaim := { program := "ytfpboambhgdeoaa", sum := "bf289541445b55fbf251acdceda604a9e9f707605a2fb97271747ce91ba323e8", func := "cloister/cloisterlaw5.TicketPlays", spec := "ticketPlays", unfollowed := true, recurses := true, apart := false }
def TicketPlaysSaid : Prop := ticketPlaysRow.holds Try.pinned (OpenSpec.ofChange ticketPlaysSpec)

/-- ITS FALSE NEIGHBOUR: 'it returns false'. Refute it at one input. -/
def ticketPlaysWrong : ChangeSpec := { name := "ticketPlays", fn := fun _ => fun
  | [d1, d2] => { results := [.lit (.bool false)], args := [d1, d2] }
  | _ => none }
def TicketPlaysWrongFalsely : Prop := ticketPlaysRow.holds Try.pinned (OpenSpec.ofChange ticketPlaysWrong)

/-- 'cloisterlaw4.HartPlays': WHATEVER THE INPUT: true; the input reads as it did. -/
def hartPlaysSpec : ChangeSpec := { name := "hartPlays", fn := fun _ => fun
  | [d1, d2] => { results := [.lit (.bool true)], args := [d1, d2] }
  | _ => none }
def hartPlaysRow : OpenClaim := { program := "ytfpboambhgdeoaa", sum := "bf289541445b55fbf251acdceda604a9e9f707605a2fb97271747ce91ba323e8", func := "cloister/cloisterlaw4.HartPlays", spec := "hartPlays", unfollowed := true, recurses := true, apart := false }
def HartPlaysSaid : Prop := hartPlaysRow.holds Try.pinned (OpenSpec.ofChange hartPlaysSpec)

/-- ITS FALSE NEIGHBOUR: 'it returns false'. Refute it at one input. -/
def hartPlaysWrong : ChangeSpec := { name := "hartPlays", fn := fun _ => fun
  | [d1, d2] => { results := [.lit (.bool false)], args := [d1, d2] }
  | _ => none }
def HartPlaysWrongFalsely : Prop := hartPlaysRow.holds Try.pinned (OpenSpec.ofChange hartPlaysWrong)

/-- 'cloisterlaw6.RankPlays': WHATEVER THE INPUT: true; the input reads as it did. -/
def rankPlaysSpec : ChangeSpec := { name := "rankPlays", fn := fun _ => fun
  | [d1, d2] => { results := [.lit (.bool true)], args := [d1, d2] }
  | _ => none }
def rankPlaysRow : OpenClaim := { program := "ytfpboambhgdeoaa", sum := "bf289541445b55fbf251acdceda604a9e9f707605a2fb97271747ce91ba323e8", func := "cloister/cloisterlaw6.RankPlays", spec := "rankPlays", unfollowed := true, recurses := true, apart := false }
def RankPlaysSaid : Prop := rankPlaysRow.holds Try.pinned (OpenSpec.ofChange rankPlaysSpec)

/-- ITS FALSE NEIGHBOUR: 'it returns false'. Refute it at one input. -/
def rankPlaysWrong : ChangeSpec := { name := "rankPlays", fn := fun _ => fun
  | [d1, d2] => { results := [.lit (.bool false)], args := [d1, d2] }
  | _ => none }
def RankPlaysWrongFalsely : Prop := rankPlaysRow.holds Try.pinned (OpenSpec.ofChange rankPlaysWrong)

/- THE SECOND FORM. 'bulk': how many values and letters a reading holds, each counted each time it is reached (what is shared counts as often as it is met; a slice's spare places count too). A statement '..UptoSaid' is the law's where the arguments, and the package variables that the reading takes, are together of bulk at most 1048576: NARROWER than '..Said'. Prove '..Said' where nothing that the law and all that it calls make is longer than what came in: it says more and counts as full. Else prove '..UptoSaid'. A law counts once. -/
mutual
def uptoBulk {H : Type} : DataW H → Nat
  | .lit (.string bytes) => bytes.length + 1
  | .lit _ => 1
  | .nil => 1
  | .ptr d => uptoBulk d + 1
  | .slice elems spare => uptoBulkAll elems + uptoBulkAll spare + 1
  | .agg parts => uptoBulkAll parts + 1
  | .iface _ d => uptoBulk d + 1
  | .map entries => uptoBulkEntries entries + 1
  | .held _ => 1
def uptoBulkAll {H : Type} : List (DataW H) → Nat
  | [] => 0
  | d :: r => uptoBulk d + uptoBulkAll r
def uptoBulkEntries {H : Type} : List (Lit × DataW H) → Nat
  | [] => 0
  | x :: r => uptoBulkEntry x + uptoBulkEntries r
def uptoBulkEntry {H : Type} : Lit × DataW H → Nat
  | (.string bytes, d) => bytes.length + uptoBulk d + 1
  | (_, d) => uptoBulk d + 1
 end
def uptoSmall : (H : Type) → List (DataW H) → Bool := fun _ ds => decide (uptoBulkAll ds ≤ 1048576)
def OpenSpec.upto (s : _root_.Go.ChangeSpec) : _root_.Go.OpenSpec := { _root_.Go.OpenSpec.ofChange s with cond := some uptoSmall }

/-- 'cloisterlaw5.TicketTurn', WHERE WHAT IT READS IS OF BULK AT MOST 1048576: true; the input reads as it did. -/
def ticketTurnUptoRow : OpenClaim := { program := "ytfpboambhgdeoaa", sum := "bf289541445b55fbf251acdceda604a9e9f707605a2fb97271747ce91ba323e8", func := "cloister/cloisterlaw5.TicketTurn", spec := "ticketTurn", apart := false, narrowed := true }
def TicketTurnUptoSaid : Prop := ticketTurnUptoRow.holds Try.pinned (OpenSpec.upto ticketTurnSpec)

/-- 'cloisterlaw5.TicketPlays', WHERE WHAT IT READS IS OF BULK AT MOST 1048576: true; the input reads as it did. -/
def ticketPlaysUptoRow : OpenClaim := { program := "ytfpboambhgdeoaa", sum := "bf289541445b55fbf251acdceda604a9e9f707605a2fb97271747ce91ba323e8", func := "cloister/cloisterlaw5.TicketPlays", spec := "ticketPlays", unfollowed := true, recurses := true, apart := false, narrowed := true }
def TicketPlaysUptoSaid : Prop := ticketPlaysUptoRow.holds Try.pinned (OpenSpec.upto ticketPlaysSpec)

/-- 'cloisterlaw4.HartPlays', WHERE WHAT IT READS IS OF BULK AT MOST 1048576: true; the input reads as it did. -/
def hartPlaysUptoRow : OpenClaim := { program := "ytfpboambhgdeoaa", sum := "bf289541445b55fbf251acdceda604a9e9f707605a2fb97271747ce91ba323e8", func := "cloister/cloisterlaw4.HartPlays", spec := "hartPlays", unfollowed := true, recurses := true, apart := false, narrowed := true }
def HartPlaysUptoSaid : Prop := hartPlaysUptoRow.holds Try.pinned (OpenSpec.upto hartPlaysSpec)

/-- 'cloisterlaw6.RankPlays', WHERE WHAT IT READS IS OF BULK AT MOST 1048576: true; the input reads as it did. -/
def rankPlaysUptoRow : OpenClaim := { program := "ytfpboambhgdeoaa", sum := "bf289541445b55fbf251acdceda604a9e9f707605a2fb97271747ce91ba323e8", func := "cloister/cloisterlaw6.RankPlays", spec := "rankPlays", unfollowed := true, recurses := true, apart := false, narrowed := true }
def RankPlaysUptoSaid : Prop := rankPlaysUptoRow.holds Try.pinned (OpenSpec.upto rankPlaysSpec)

end Rows
end Go.Proofs.Ytfpboambhgdeoaa
