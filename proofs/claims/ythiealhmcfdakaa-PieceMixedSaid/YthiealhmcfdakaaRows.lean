/-
  No cell of these rows narrows 'for every input' (looked for: loops, veiled, ifaces, maps, wideKeys, modest, calm, conditions, laid).
  DERIVED. THE GIVEN ROWS OF THIS SEAT. 8 by the template 'for every input the law returns true; each argument reads behind the call as it read before'; 0 by the template 'total and deterministic' (their statements: YthiealhmcfdakaaTotals.lean).
  GIVEN WITH THE SEED: the statements are not yours to turn. If you find one false, say at which input.
  Laid BY PROGRAM, IN A SANDBOX (cutbox-rows.mjs): the forced cells as the released guide's own fill.sh prints them over the translation 87605ffa4b7b017c… (all of the seat's roots in one cut). By AI agents, Wed Nov 11 2026. No macro, syntax, notation, axiom, sorry.
-/
import Derived.Test.YthiealhmcfdakaaChecked
import GoSem.Claim
import GoSem.ClaimJoined
import GoSem.ClaimMapViews
import Derived.JoinedTies
import Derived.KernelRfl
namespace Go.Proofs.Ythiealhmcfdakaa
/- THE CELL 'sum', in the pinned program and in every row, IS THE sha256 OF THE DUMP (.gsa) THAT YthiealhmcfdakaaProg.lean LOADS. Nothing in Lean hashes anything: it is a label: what it is worth is what the hold of that sum in a sandbox is worth. -/
noncomputable def Try.pinned : Pinned := { name := "ythiealhmcfdakaa", sum := "87605ffa4b7b017c9e9491befee5dad335af584680d8e58c706c1f8d10b9cbe6", checked := Try.checked }
namespace Rows
def none {H : Type} : Left H := { results := [], args := [] }

/-- 'seamarklaw30.PieceBack': WHATEVER THE INPUT: true; the input reads as it did. -/
def pieceBackSpec : ChangeSpec := { name := "pieceBack", fn := fun _ => fun
  | [d1, d2, d3] => { results := [.lit (.bool true)], args := [d1, d2, d3] }
  | _ => none }
def pieceBackRow : OpenClaim := { program := "ythiealhmcfdakaa", sum := "87605ffa4b7b017c9e9491befee5dad335af584680d8e58c706c1f8d10b9cbe6", func := "seamark/seamarklaw30.PieceBack", spec := "pieceBack", unfollowed := true, recurses := true, apart := false }
def PieceBackSaid : Prop := pieceBackRow.holds Try.pinned (OpenSpec.ofChange pieceBackSpec)

/-- ITS FALSE NEIGHBOUR: 'it returns false'. Refute it at one input. -/
def pieceBackWrong : ChangeSpec := { name := "pieceBack", fn := fun _ => fun
  | [d1, d2, d3] => { results := [.lit (.bool false)], args := [d1, d2, d3] }
  | _ => none }
def PieceBackWrongFalsely : Prop := pieceBackRow.holds Try.pinned (OpenSpec.ofChange pieceBackWrong)

/-- 'seamarklaw30.PieceGathered': WHATEVER THE INPUT: true; the input reads as it did. -/
def pieceGatheredSpec : ChangeSpec := { name := "pieceGathered", fn := fun _ => fun
  | [d1, d2, d3, d4] => { results := [.lit (.bool true)], args := [d1, d2, d3, d4] }
  | _ => none }
def pieceGatheredRow : OpenClaim := { program := "ythiealhmcfdakaa", sum := "87605ffa4b7b017c9e9491befee5dad335af584680d8e58c706c1f8d10b9cbe6", func := "seamark/seamarklaw30.PieceGathered", spec := "pieceGathered", unfollowed := true, recurses := true, apart := false }
def PieceGatheredSaid : Prop := pieceGatheredRow.holds Try.pinned (OpenSpec.ofChange pieceGatheredSpec)

/-- ITS FALSE NEIGHBOUR: 'it returns false'. Refute it at one input. -/
def pieceGatheredWrong : ChangeSpec := { name := "pieceGathered", fn := fun _ => fun
  | [d1, d2, d3, d4] => { results := [.lit (.bool false)], args := [d1, d2, d3, d4] }
  | _ => none }
def PieceGatheredWrongFalsely : Prop := pieceGatheredRow.holds Try.pinned (OpenSpec.ofChange pieceGatheredWrong)

/-- 'seamarklaw30.PieceFrames': WHATEVER THE INPUT: true; the input reads as it did. -/
def pieceFramesSpec : ChangeSpec := { name := "pieceFrames", fn := fun _ => fun
  | [d1, d2] => { results := [.lit (.bool true)], args := [d1, d2] }
  | _ => none }
def pieceFramesRow : OpenClaim := { program := "ythiealhmcfdakaa", sum := "87605ffa4b7b017c9e9491befee5dad335af584680d8e58c706c1f8d10b9cbe6", func := "seamark/seamarklaw30.PieceFrames", spec := "pieceFrames", unfollowed := true, recurses := true, apart := false }
def PieceFramesSaid : Prop := pieceFramesRow.holds Try.pinned (OpenSpec.ofChange pieceFramesSpec)

/-- ITS FALSE NEIGHBOUR: 'it returns false'. Refute it at one input. -/
def pieceFramesWrong : ChangeSpec := { name := "pieceFrames", fn := fun _ => fun
  | [d1, d2] => { results := [.lit (.bool false)], args := [d1, d2] }
  | _ => none }
def PieceFramesWrongFalsely : Prop := pieceFramesRow.holds Try.pinned (OpenSpec.ofChange pieceFramesWrong)

/-- 'seamarklaw30.PieceDamage': WHATEVER THE INPUT: true; the input reads as it did. -/
def pieceDamageSpec : ChangeSpec := { name := "pieceDamage", fn := fun _ => fun
  | [d1, d2, d3, d4] => { results := [.lit (.bool true)], args := [d1, d2, d3, d4] }
  | _ => none }
def pieceDamageRow : OpenClaim := { program := "ythiealhmcfdakaa", sum := "87605ffa4b7b017c9e9491befee5dad335af584680d8e58c706c1f8d10b9cbe6", func := "seamark/seamarklaw30.PieceDamage", spec := "pieceDamage", unfollowed := true, recurses := true, apart := false }
def PieceDamageSaid : Prop := pieceDamageRow.holds Try.pinned (OpenSpec.ofChange pieceDamageSpec)

/-- ITS FALSE NEIGHBOUR: 'it returns false'. Refute it at one input. -/
def pieceDamageWrong : ChangeSpec := { name := "pieceDamage", fn := fun _ => fun
  | [d1, d2, d3, d4] => { results := [.lit (.bool false)], args := [d1, d2, d3, d4] }
  | _ => none }
def PieceDamageWrongFalsely : Prop := pieceDamageRow.holds Try.pinned (OpenSpec.ofChange pieceDamageWrong)

/-- 'seamarklaw30.PieceMixed': WHATEVER THE INPUT: true; the input reads as it did. -/
def pieceMixedSpec : ChangeSpec := { name := "pieceMixed", fn := fun _ => fun
  | [d1, d2, d3, d4, d5, d6, d7] => { results := [.lit (.bool true)], args := [d1, d2, d3, d4, d5, d6, d7] }
  | _ => none }
def pieceMixedRow : OpenClaim := { program := "ythiealhmcfdakaa", sum := "87605ffa4b7b017c9e9491befee5dad335af584680d8e58c706c1f8d10b9cbe6", func := "seamark/seamarklaw30.PieceMixed", spec := "pieceMixed", unfollowed := true, recurses := true, apart := false }
def PieceMixedSaid : Prop := pieceMixedRow.holds Try.pinned (OpenSpec.ofChange pieceMixedSpec)

/-- ITS FALSE NEIGHBOUR: 'it returns false'. Refute it at one input. -/
def pieceMixedWrong : ChangeSpec := { name := "pieceMixed", fn := fun _ => fun
  | [d1, d2, d3, d4, d5, d6, d7] => { results := [.lit (.bool false)], args := [d1, d2, d3, d4, d5, d6, d7] }
  | _ => none }
def PieceMixedWrongFalsely : Prop := pieceMixedRow.holds Try.pinned (OpenSpec.ofChange pieceMixedWrong)

/-- 'seamarklaw30.PieceFew': WHATEVER THE INPUT: true; the input reads as it did. -/
def pieceFewSpec : ChangeSpec := { name := "pieceFew", fn := fun _ => fun
  | [d] => { results := [.lit (.bool true)], args := [d] }
  | _ => none }
def pieceFewRow : OpenClaim := { program := "ythiealhmcfdakaa", sum := "87605ffa4b7b017c9e9491befee5dad335af584680d8e58c706c1f8d10b9cbe6", func := "seamark/seamarklaw30.PieceFew", spec := "pieceFew", unfollowed := true, recurses := true, apart := false }
def PieceFewSaid : Prop := pieceFewRow.holds Try.pinned (OpenSpec.ofChange pieceFewSpec)

/-- ITS FALSE NEIGHBOUR: 'it returns false'. Refute it at one input. -/
def pieceFewWrong : ChangeSpec := { name := "pieceFew", fn := fun _ => fun
  | [d] => { results := [.lit (.bool false)], args := [d] }
  | _ => none }
def PieceFewWrongFalsely : Prop := pieceFewRow.holds Try.pinned (OpenSpec.ofChange pieceFewWrong)

/-- 'seamarklaw30.PieceChanged': WHATEVER THE INPUT: true; the input reads as it did. -/
def pieceChangedSpec : ChangeSpec := { name := "pieceChanged", fn := fun _ => fun
  | [d1, d2, d3, d4, d5, d6] => { results := [.lit (.bool true)], args := [d1, d2, d3, d4, d5, d6] }
  | _ => none }
def pieceChangedRow : OpenClaim := { program := "ythiealhmcfdakaa", sum := "87605ffa4b7b017c9e9491befee5dad335af584680d8e58c706c1f8d10b9cbe6", func := "seamark/seamarklaw30.PieceChanged", spec := "pieceChanged", unfollowed := true, recurses := true, apart := false }
def PieceChangedSaid : Prop := pieceChangedRow.holds Try.pinned (OpenSpec.ofChange pieceChangedSpec)

/-- ITS FALSE NEIGHBOUR: 'it returns false'. Refute it at one input. -/
def pieceChangedWrong : ChangeSpec := { name := "pieceChanged", fn := fun _ => fun
  | [d1, d2, d3, d4, d5, d6] => { results := [.lit (.bool false)], args := [d1, d2, d3, d4, d5, d6] }
  | _ => none }
def PieceChangedWrongFalsely : Prop := pieceChangedRow.holds Try.pinned (OpenSpec.ofChange pieceChangedWrong)

/-- 'seamarklaw30.PieceOrder': WHATEVER THE INPUT: true; the input reads as it did. -/
def pieceOrderSpec : ChangeSpec := { name := "pieceOrder", fn := fun _ => fun
  | [d1, d2, d3] => { results := [.lit (.bool true)], args := [d1, d2, d3] }
  | _ => none }
def pieceOrderRow : OpenClaim := { program := "ythiealhmcfdakaa", sum := "87605ffa4b7b017c9e9491befee5dad335af584680d8e58c706c1f8d10b9cbe6", func := "seamark/seamarklaw30.PieceOrder", spec := "pieceOrder", unfollowed := true, recurses := true, apart := false }
def PieceOrderSaid : Prop := pieceOrderRow.holds Try.pinned (OpenSpec.ofChange pieceOrderSpec)

/-- ITS FALSE NEIGHBOUR: 'it returns false'. Refute it at one input. -/
def pieceOrderWrong : ChangeSpec := { name := "pieceOrder", fn := fun _ => fun
  | [d1, d2, d3] => { results := [.lit (.bool false)], args := [d1, d2, d3] }
  | _ => none }
def PieceOrderWrongFalsely : Prop := pieceOrderRow.holds Try.pinned (OpenSpec.ofChange pieceOrderWrong)

/- THE SECOND FORM. 'bulk': how many values and letters a reading holds, each counted each time it is reached (what is shared counts as often as it is met; a slice's spare places count too). A statement '..UptoSaid' is the law's where the arguments, and the package variables that the reading takes, are together of bulk at most 1048576: NARROWER than '..Said'. Prove '..Said' where nothing that the law and all that it calls make is longer than what came in: it says more and counts as full. Else prove '..UptoSaid'. A law counts once. -/
mutual
def uptoBulk {H : Type} : DataW H → Nat
  | .lit (.string bytes) => bytes.length + 1
  | .lit _ => 1
  | .nil => 1
  | .ptr d => uptoBulk d + 1
  | .slice elems spare => uptoBulkAll elems + uptoBulkAll spare + 1
  | .agg parts => uptoBulkAll parts + 1
  | .iface _ d => uptoBulk d + 1
  | .map entries => uptoBulkEntries entries + 1
  | .held _ => 1
def uptoBulkAll {H : Type} : List (DataW H) → Nat
  | [] => 0
  | d :: r => uptoBulk d + uptoBulkAll r
def uptoBulkEntries {H : Type} : List (Lit × DataW H) → Nat
  | [] => 0
  | x :: r => uptoBulkEntry x + uptoBulkEntries r
def uptoBulkEntry {H : Type} : Lit × DataW H → Nat
  | (.string bytes, d) => bytes.length + uptoBulk d + 1
  | (_, d) => uptoBulk d + 1
 end
def uptoSmall : (H : Type) → List (DataW H) → Bool := fun _ ds => decide (uptoBulkAll ds ≤ 1048576)
def OpenSpec.upto (s : _root_.Go.ChangeSpec) : _root_.Go.OpenSpec := { _root_.Go.OpenSpec.ofChange s with cond := some uptoSmall }

/-- 'seamarklaw30.PieceBack', WHERE WHAT IT READS IS OF BULK AT MOST 1048576: true; the input reads as it did. -/
def pieceBackUptoRow : OpenClaim := { program := "ythiealhmcfdakaa", sum := "87605ffa4b7b017c9e9491befee5dad335af584680d8e58c706c1f8d10b9cbe6", func := "seamark/seamarklaw30.PieceBack", spec := "pieceBack", unfollowed := true, recurses := true, apart := false, narrowed := true }
def PieceBackUptoSaid : Prop := pieceBackUptoRow.holds Try.pinned (OpenSpec.upto pieceBackSpec)

/-- 'seamarklaw30.PieceGathered', WHERE WHAT IT READS IS OF BULK AT MOST 1048576: true; the input reads as it did. -/
def pieceGatheredUptoRow : OpenClaim := { program := "ythiealhmcfdakaa", sum := "87605ffa4b7b017c9e9491befee5dad335af584680d8e58c706c1f8d10b9cbe6", func := "seamark/seamarklaw30.PieceGathered", spec := "pieceGathered", unfollowed := true, recurses := true, apart := false, narrowed := true }
def PieceGatheredUptoSaid : Prop := pieceGatheredUptoRow.holds Try.pinned (OpenSpec.upto pieceGatheredSpec)

/-- 'seamarklaw30.PieceFrames', WHERE WHAT IT READS IS OF BULK AT MOST 1048576: true; the input reads as it did. -/
def pieceFramesUptoRow : OpenClaim := { program := "ythiealhmcfdakaa", sum := "87605ffa4b7b017c9e9491befee5dad335af584680d8e58c706c1f8d10b9cbe6", func := "seamark/seamarklaw30.PieceFrames", spec := "pieceFrames", unfollowed := true, recurses := true, apart := false, narrowed := true }
def PieceFramesUptoSaid : Prop := pieceFramesUptoRow.holds Try.pinned (OpenSpec.upto pieceFramesSpec)

/-- 'seamarklaw30.PieceDamage', WHERE WHAT IT READS IS OF BULK AT MOST 1048576: true; the input reads as it did. -/
def pieceDamageUptoRow : OpenClaim := { program := "ythiealhmcfdakaa", sum := "87605ffa4b7b017c9e9491befee5dad335af584680d8e58c706c1f8d10b9cbe6", func := "seamark/seamarklaw30.PieceDamage", spec := "pieceDamage", unfollowed := true, recurses := true, apart := false, narrowed := true }
def PieceDamageUptoSaid : Prop := pieceDamageUptoRow.holds Try.pinned (OpenSpec.upto pieceDamageSpec)

/-- 'seamarklaw30.PieceMixed', WHERE WHAT IT READS IS OF BULK AT MOST 1048576: true; the input reads as it did. -/
def pieceMixedUptoRow : OpenClaim := { program := "ythiealhmcfdakaa", sum := "87605ffa4b7b017c9e9491befee5dad335af584680d8e58c706c1f8d10b9cbe6", func := "seamark/seamarklaw30.PieceMixed", spec := "pieceMixed", unfollowed := true, recurses := true, apart := false, narrowed := true }
def PieceMixedUptoSaid : Prop := pieceMixedUptoRow.holds Try.pinned (OpenSpec.upto pieceMixedSpec)

/-- 'seamarklaw30.PieceFew', WHERE WHAT IT READS IS OF BULK AT MOST 1048576: true; the input reads as it did. -/
def pieceFewUptoRow : OpenClaim := { program := "ythiealhmcfdakaa", sum := "87605ffa4b7b017c9e9491befee5dad335af584680d8e58c706c1f8d10b9cbe6", func := "seamark/seamarklaw30.PieceFew", spec := "pieceFew", unfollowed := true, recurses := true, apart := false, narrowed := true }
def PieceFewUptoSaid : Prop := pieceFewUptoRow.holds Try.pinned (OpenSpec.upto pieceFewSpec)

/-- 'seamarklaw30.PieceChanged', WHERE WHAT IT READS IS OF BULK AT MOST 1048576: true; the input reads as it did. -/
def pieceChangedUptoRow : OpenClaim := { program := "ythiealhmcfdakaa", sum := "87605ffa4b7b017c9e9491befee5dad335af584680d8e58c706c1f8d10b9cbe6", func := "seamark/seamarklaw30.PieceChanged", spec := "pieceChanged", unfollowed := true, recurses := true, apart := false, narrowed := true }
def PieceChangedUptoSaid : Prop := pieceChangedUptoRow.holds Try.pinned (OpenSpec.upto pieceChangedSpec)

/-- 'seamarklaw30.PieceOrder', WHERE WHAT IT READS IS OF BULK AT MOST 1048576: true; the input reads as it did. -/
def pieceOrderUptoRow : OpenClaim := { program := "ythiealhmcfdakaa", sum := "87605ffa4b7b017c9e9491befee5dad335af584680d8e58c706c1f8d10b9cbe6", func := "seamark/seamarklaw30.PieceOrder", spec := "pieceOrder", unfollowed := true, recurses := true, apart := false, narrowed := true }
def PieceOrderUptoSaid : Prop := pieceOrderUptoRow.holds Try.pinned (OpenSpec.upto pieceOrderSpec)

end Rows
end Go.Proofs.Ythiealhmcfdakaa
