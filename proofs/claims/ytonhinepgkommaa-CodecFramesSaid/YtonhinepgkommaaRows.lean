/-
  No cell of these rows narrows 'for every input' (looked for: loops, veiled, ifaces, maps, wideKeys, modest, calm, conditions, laid).
  DERIVED. THE GIVEN ROWS OF THIS SEAT. 8 by the template 'for every input the law returns true; each argument reads behind the call as it read before'; 0 by the template 'total and deterministic' (their statements: YtonhinepgkommaaTotals.lean).
  GIVEN WITH THE SEED: the statements are not yours to turn. If you find one false, say at which input.
  Laid BY PROGRAM, IN A SANDBOX (cutbox-rows.mjs): the forced cells as the released guide's own fill.sh prints them over the translation bb913006f3618dd8… (all of the seat's roots in one cut). By AI agents, Wed Nov 11 2026. No macro, syntax, notation, axiom, sorry.
-/
import Derived.Test.YtonhinepgkommaaChecked
import GoSem.Claim
import GoSem.ClaimJoined
import GoSem.ClaimMapViews
import Derived.JoinedTies
import Derived.KernelRfl
namespace Go.Proofs.Ytonhinepgkommaa
/- THE CELL 'sum', in the pinned program and in every row, IS THE sha256 OF THE DUMP (.gsa) THAT YtonhinepgkommaaProg.lean LOADS. Nothing in Lean hashes anything: it is a label: what it is worth is what the hold of that sum in a sandbox is worth. -/
noncomputable def Try.pinned : Pinned := { name := "ytonhinepgkommaa", sum := "bb913006f3618dd860f50aacc626ee45f93b405b7a3f680e5065fe207e4b01be", checked := Try.checked }
namespace Rows
def none {H : Type} : Left H := { results := [], args := [] }

/-- 'seamarklaw08.CodecBack': WHATEVER THE INPUT: true; the input reads as it did. -/
def codecBackSpec : ChangeSpec := { name := "codecBack", fn := fun _ => fun
  | [d1, d2] => { results := [.lit (.bool true)], args := [d1, d2] }
  | _ => none }
def codecBackRow : OpenClaim := { program := "ytonhinepgkommaa", sum := "bb913006f3618dd860f50aacc626ee45f93b405b7a3f680e5065fe207e4b01be", func := "seamark/seamarklaw08.CodecBack", spec := "codecBack", unfollowed := true, recurses := true, apart := false }
def CodecBackSaid : Prop := codecBackRow.holds Try.pinned (OpenSpec.ofChange codecBackSpec)

/-- ITS FALSE NEIGHBOUR: 'it returns false'. Refute it at one input. -/
def codecBackWrong : ChangeSpec := { name := "codecBack", fn := fun _ => fun
  | [d1, d2] => { results := [.lit (.bool false)], args := [d1, d2] }
  | _ => none }
def CodecBackWrongFalsely : Prop := codecBackRow.holds Try.pinned (OpenSpec.ofChange codecBackWrong)

/-- 'seamarklaw08.CodecJoined': WHATEVER THE INPUT: true; the input reads as it did. -/
def codecJoinedSpec : ChangeSpec := { name := "codecJoined", fn := fun _ => fun
  | [d1, d2] => { results := [.lit (.bool true)], args := [d1, d2] }
  | _ => none }
def codecJoinedRow : OpenClaim := { program := "ytonhinepgkommaa", sum := "bb913006f3618dd860f50aacc626ee45f93b405b7a3f680e5065fe207e4b01be", func := "seamark/seamarklaw08.CodecJoined", spec := "codecJoined", unfollowed := true, recurses := true, apart := false }
def CodecJoinedSaid : Prop := codecJoinedRow.holds Try.pinned (OpenSpec.ofChange codecJoinedSpec)

/-- ITS FALSE NEIGHBOUR: 'it returns false'. Refute it at one input. -/
def codecJoinedWrong : ChangeSpec := { name := "codecJoined", fn := fun _ => fun
  | [d1, d2] => { results := [.lit (.bool false)], args := [d1, d2] }
  | _ => none }
def CodecJoinedWrongFalsely : Prop := codecJoinedRow.holds Try.pinned (OpenSpec.ofChange codecJoinedWrong)

/-- 'seamarklaw08.CodecShort': WHATEVER THE INPUT: true; the input reads as it did. -/
def codecShortSpec : ChangeSpec := { name := "codecShort", fn := fun _ => fun
  | [d1, d2] => { results := [.lit (.bool true)], args := [d1, d2] }
  | _ => none }
def codecShortRow : OpenClaim := { program := "ytonhinepgkommaa", sum := "bb913006f3618dd860f50aacc626ee45f93b405b7a3f680e5065fe207e4b01be", func := "seamark/seamarklaw08.CodecShort", spec := "codecShort", unfollowed := true, recurses := true, apart := false }
def CodecShortSaid : Prop := codecShortRow.holds Try.pinned (OpenSpec.ofChange codecShortSpec)

/-- ITS FALSE NEIGHBOUR: 'it returns false'. Refute it at one input. -/
def codecShortWrong : ChangeSpec := { name := "codecShort", fn := fun _ => fun
  | [d1, d2] => { results := [.lit (.bool false)], args := [d1, d2] }
  | _ => none }
def CodecShortWrongFalsely : Prop := codecShortRow.holds Try.pinned (OpenSpec.ofChange codecShortWrong)

/-- 'seamarklaw08.CodecSums': WHATEVER THE INPUT: true; the input reads as it did. -/
def codecSumsSpec : ChangeSpec := { name := "codecSums", fn := fun _ => fun
  | [d] => { results := [.lit (.bool true)], args := [d] }
  | _ => none }
def codecSumsRow : OpenClaim := { program := "ytonhinepgkommaa", sum := "bb913006f3618dd860f50aacc626ee45f93b405b7a3f680e5065fe207e4b01be", func := "seamark/seamarklaw08.CodecSums", spec := "codecSums", unfollowed := true, recurses := true, apart := false }
def CodecSumsSaid : Prop := codecSumsRow.holds Try.pinned (OpenSpec.ofChange codecSumsSpec)

/-- ITS FALSE NEIGHBOUR: 'it returns false'. Refute it at one input. -/
def codecSumsWrong : ChangeSpec := { name := "codecSums", fn := fun _ => fun
  | [d] => { results := [.lit (.bool false)], args := [d] }
  | _ => none }
def CodecSumsWrongFalsely : Prop := codecSumsRow.holds Try.pinned (OpenSpec.ofChange codecSumsWrong)

/-- 'seamarklaw08.CodecFrames': WHATEVER THE INPUT: true; the input reads as it did. -/
def codecFramesSpec : ChangeSpec := { name := "codecFrames", fn := fun _ => fun
  | [d1, d2, d3, d4] => { results := [.lit (.bool true)], args := [d1, d2, d3, d4] }
  | _ => none }
def codecFramesRow : OpenClaim := { program := "ytonhinepgkommaa", sum := "bb913006f3618dd860f50aacc626ee45f93b405b7a3f680e5065fe207e4b01be", func := "seamark/seamarklaw08.CodecFrames", spec := "codecFrames", unfollowed := true, recurses := true, apart := false }
def CodecFramesSaid : Prop := codecFramesRow.holds Try.pinned (OpenSpec.ofChange codecFramesSpec)

/-- ITS FALSE NEIGHBOUR: 'it returns false'. Refute it at one input. -/
def codecFramesWrong : ChangeSpec := { name := "codecFrames", fn := fun _ => fun
  | [d1, d2, d3, d4] => { results := [.lit (.bool false)], args := [d1, d2, d3, d4] }
  | _ => none }
def CodecFramesWrongFalsely : Prop := codecFramesRow.holds Try.pinned (OpenSpec.ofChange codecFramesWrong)

/-- 'seamarklaw08.CodecDamage': WHATEVER THE INPUT: true; the input reads as it did. -/
def codecDamageSpec : ChangeSpec := { name := "codecDamage", fn := fun _ => fun
  | [d1, d2, d3] => { results := [.lit (.bool true)], args := [d1, d2, d3] }
  | _ => none }
def codecDamageRow : OpenClaim := { program := "ytonhinepgkommaa", sum := "bb913006f3618dd860f50aacc626ee45f93b405b7a3f680e5065fe207e4b01be", func := "seamark/seamarklaw08.CodecDamage", spec := "codecDamage", unfollowed := true, recurses := true, apart := false }
def CodecDamageSaid : Prop := codecDamageRow.holds Try.pinned (OpenSpec.ofChange codecDamageSpec)

/-- ITS FALSE NEIGHBOUR: 'it returns false'. Refute it at one input. -/
def codecDamageWrong : ChangeSpec := { name := "codecDamage", fn := fun _ => fun
  | [d1, d2, d3] => { results := [.lit (.bool false)], args := [d1, d2, d3] }
  | _ => none }
def CodecDamageWrongFalsely : Prop := codecDamageRow.holds Try.pinned (OpenSpec.ofChange codecDamageWrong)

/-- 'seamarklaw08.CodecDigests': WHATEVER THE INPUT: true; the input reads as it did. -/
def codecDigestsSpec : ChangeSpec := { name := "codecDigests", fn := fun _ => fun
  | [d1, d2, d3, d4, d5, d6, d7] => { results := [.lit (.bool true)], args := [d1, d2, d3, d4, d5, d6, d7] }
  | _ => none }
def codecDigestsRow : OpenClaim := { program := "ytonhinepgkommaa", sum := "bb913006f3618dd860f50aacc626ee45f93b405b7a3f680e5065fe207e4b01be", func := "seamark/seamarklaw08.CodecDigests", spec := "codecDigests", unfollowed := true, recurses := true, apart := false }
def CodecDigestsSaid : Prop := codecDigestsRow.holds Try.pinned (OpenSpec.ofChange codecDigestsSpec)

/-- ITS FALSE NEIGHBOUR: 'it returns false'. Refute it at one input. -/
def codecDigestsWrong : ChangeSpec := { name := "codecDigests", fn := fun _ => fun
  | [d1, d2, d3, d4, d5, d6, d7] => { results := [.lit (.bool false)], args := [d1, d2, d3, d4, d5, d6, d7] }
  | _ => none }
def CodecDigestsWrongFalsely : Prop := codecDigestsRow.holds Try.pinned (OpenSpec.ofChange codecDigestsWrong)

/-- 'seamarklaw08.CodecMatchesReference': WHATEVER THE INPUT: true; the input reads as it did. -/
def codecMatchesReferenceSpec : ChangeSpec := { name := "codecMatchesReference", fn := fun _ => fun
  | [d1, d2, d3, d4] => { results := [.lit (.bool true)], args := [d1, d2, d3, d4] }
  | _ => none }
def codecMatchesReferenceRow : OpenClaim := { program := "ytonhinepgkommaa", sum := "bb913006f3618dd860f50aacc626ee45f93b405b7a3f680e5065fe207e4b01be", func := "seamark/seamarklaw08.CodecMatchesReference", spec := "codecMatchesReference", unfollowed := true, recurses := true, apart := false }
def CodecMatchesReferenceSaid : Prop := codecMatchesReferenceRow.holds Try.pinned (OpenSpec.ofChange codecMatchesReferenceSpec)

/-- ITS FALSE NEIGHBOUR: 'it returns false'. Refute it at one input. -/
def codecMatchesReferenceWrong : ChangeSpec := { name := "codecMatchesReference", fn := fun _ => fun
  | [d1, d2, d3, d4] => { results := [.lit (.bool false)], args := [d1, d2, d3, d4] }
  | _ => none }
def CodecMatchesReferenceWrongFalsely : Prop := codecMatchesReferenceRow.holds Try.pinned (OpenSpec.ofChange codecMatchesReferenceWrong)

/- THE SECOND FORM. 'bulk': how many values and letters a reading holds, each counted each time it is reached (what is shared counts as often as it is met; a slice's spare places count too). A statement '..UptoSaid' is the law's where the arguments, and the package variables that the reading takes, are together of bulk at most 1048576: NARROWER than '..Said'. Prove '..Said' where nothing that the law and all that it calls make is longer than what came in: it says more and counts as full. Else prove '..UptoSaid'. A law counts once. -/
mutual
def uptoBulk {H : Type} : DataW H → Nat
  | .lit (.string bytes) => bytes.length + 1
  | .lit _ => 1
  | .nil => 1
  | .ptr d => uptoBulk d + 1
  | .slice elems spare => uptoBulkAll elems + uptoBulkAll spare + 1
  | .agg parts => uptoBulkAll parts + 1
  | .iface _ d => uptoBulk d + 1
  | .map entries => uptoBulkEntries entries + 1
  | .held _ => 1
def uptoBulkAll {H : Type} : List (DataW H) → Nat
  | [] => 0
  | d :: r => uptoBulk d + uptoBulkAll r
def uptoBulkEntries {H : Type} : List (Lit × DataW H) → Nat
  | [] => 0
  | x :: r => uptoBulkEntry x + uptoBulkEntries r
def uptoBulkEntry {H : Type} : Lit × DataW H → Nat
  | (.string bytes, d) => bytes.length + uptoBulk d + 1
  | (_, d) => uptoBulk d + 1
 end
def uptoSmall : (H : Type) → List (DataW H) → Bool := fun _ ds => decide (uptoBulkAll ds ≤ 1048576)
def OpenSpec.upto (s : _root_.Go.ChangeSpec) : _root_.Go.OpenSpec := { _root_.Go.OpenSpec.ofChange s with cond := some uptoSmall }

/-- 'seamarklaw08.CodecBack', WHERE WHAT IT READS IS OF BULK AT MOST 1048576: true; the input reads as it did. -/
def codecBackUptoRow : OpenClaim := { program := "ytonhinepgkommaa", sum := "bb913006f3618dd860f50aacc626ee45f93b405b7a3f680e5065fe207e4b01be", func := "seamark/seamarklaw08.CodecBack", spec := "codecBack", unfollowed := true, recurses := true, apart := false, narrowed := true }
def CodecBackUptoSaid : Prop := codecBackUptoRow.holds Try.pinned (OpenSpec.upto codecBackSpec)

/-- 'seamarklaw08.CodecJoined', WHERE WHAT IT READS IS OF BULK AT MOST 1048576: true; the input reads as it did. -/
def codecJoinedUptoRow : OpenClaim := { program := "ytonhinepgkommaa", sum := "bb913006f3618dd860f50aacc626ee45f93b405b7a3f680e5065fe207e4b01be", func := "seamark/seamarklaw08.CodecJoined", spec := "codecJoined", unfollowed := true, recurses := true, apart := false, narrowed := true }
def CodecJoinedUptoSaid : Prop := codecJoinedUptoRow.holds Try.pinned (OpenSpec.upto codecJoinedSpec)

/-- 'seamarklaw08.CodecShort', WHERE WHAT IT READS IS OF BULK AT MOST 1048576: true; the input reads as it did. -/
def codecShortUptoRow : OpenClaim := { program := "ytonhinepgkommaa", sum := "bb913006f3618dd860f50aacc626ee45f93b405b7a3f680e5065fe207e4b01be", func := "seamark/seamarklaw08.CodecShort", spec := "codecShort", unfollowed := true, recurses := true, apart := false, narrowed := true }
def CodecShortUptoSaid : Prop := codecShortUptoRow.holds Try.pinned (OpenSpec.upto codecShortSpec)

/-- 'seamarklaw08.CodecSums', WHERE WHAT IT READS IS OF BULK AT MOST 1048576: true; the input reads as it did. -/
def codecSumsUptoRow : OpenClaim := { program := "ytonhinepgkommaa", sum := "bb913006f3618dd860f50aacc626ee45f93b405b7a3f680e5065fe207e4b01be", func := "seamark/seamarklaw08.CodecSums", spec := "codecSums", unfollowed := true, recurses := true, apart := false, narrowed := true }
def CodecSumsUptoSaid : Prop := codecSumsUptoRow.holds Try.pinned (OpenSpec.upto codecSumsSpec)

/-- 'seamarklaw08.CodecFrames', WHERE WHAT IT READS IS OF BULK AT MOST 1048576: true; the input reads as it did. -/
def codecFramesUptoRow : OpenClaim := { program := "ytonhinepgkommaa", sum := "bb913006f3618dd860f50aacc626ee45f93b405b7a3f680e5065fe207e4b01be", func := "seamark/seamarklaw08.CodecFrames", spec := "codecFrames", unfollowed := true, recurses := true, apart := false, narrowed := true }
def CodecFramesUptoSaid : Prop := codecFramesUptoRow.holds Try.pinned (OpenSpec.upto codecFramesSpec)

/-- 'seamarklaw08.CodecDamage', WHERE WHAT IT READS IS OF BULK AT MOST 1048576: true; the input reads as it did. -/
def codecDamageUptoRow : OpenClaim := { program := "ytonhinepgkommaa", sum := "bb913006f3618dd860f50aacc626ee45f93b405b7a3f680e5065fe207e4b01be", func := "seamark/seamarklaw08.CodecDamage", spec := "codecDamage", unfollowed := true, recurses := true, apart := false, narrowed := true }
def CodecDamageUptoSaid : Prop := codecDamageUptoRow.holds Try.pinned (OpenSpec.upto codecDamageSpec)

/-- 'seamarklaw08.CodecDigests', WHERE WHAT IT READS IS OF BULK AT MOST 1048576: true; the input reads as it did. -/
def codecDigestsUptoRow : OpenClaim := { program := "ytonhinepgkommaa", sum := "bb913006f3618dd860f50aacc626ee45f93b405b7a3f680e5065fe207e4b01be", func := "seamark/seamarklaw08.CodecDigests", spec := "codecDigests", unfollowed := true, recurses := true, apart := false, narrowed := true }
def CodecDigestsUptoSaid : Prop := codecDigestsUptoRow.holds Try.pinned (OpenSpec.upto codecDigestsSpec)

/-- 'seamarklaw08.CodecMatchesReference', WHERE WHAT IT READS IS OF BULK AT MOST 1048576: true; the input reads as it did. -/
def codecMatchesReferenceUptoRow : OpenClaim := { program := "ytonhinepgkommaa", sum := "bb913006f3618dd860f50aacc626ee45f93b405b7a3f680e5065fe207e4b01be", func := "seamark/seamarklaw08.CodecMatchesReference", spec := "codecMatchesReference", unfollowed := true, recurses := true, apart := false, narrowed := true }
def CodecMatchesReferenceUptoSaid : Prop := codecMatchesReferenceUptoRow.holds Try.pinned (OpenSpec.upto codecMatchesReferenceSpec)

end Rows
end Go.Proofs.Ytonhinepgkommaa
