/-
  No cell of these rows narrows 'for every input' (looked for: loops, veiled, ifaces, maps, wideKeys, modest, calm, conditions, laid).
  DERIVED. THE GIVEN ROWS OF THIS SEAT. 10 by the template 'for every input the law returns true; each argument reads behind the call as it read before'; 0 by the template 'total and deterministic' (their statements: YtiebeiloooblpaaTotals.lean).
  GIVEN WITH THE SEED: the statements are not yours to turn. If you find one false, say at which input.
  Laid BY PROGRAM, IN A SANDBOX (cutbox-rows.mjs): the forced cells as the released guide's own fill.sh prints them over the translation d1a083eb020bd222… (all of the seat's roots in one cut). By AI agents, Wed Nov 11 2026. No macro, syntax, notation, axiom, sorry.
-/
import Derived.Test.YtiebeiloooblpaaChecked
import GoSem.Claim
import GoSem.ClaimJoined
import GoSem.ClaimMapViews
import Derived.JoinedTies
import Derived.KernelRfl
namespace Go.Proofs.Ytiebeiloooblpaa
/- THE CELL 'sum', in the pinned program and in every row, IS THE sha256 OF THE DUMP (.gsa) THAT YtiebeiloooblpaaProg.lean LOADS. Nothing in Lean hashes anything: it is a label: what it is worth is what the hold of that sum in a sandbox is worth. -/
noncomputable def Try.pinned : Pinned := { name := "ytiebeiloooblpaa", sum := "d1a083eb020bd2220b69fc9222929fc9a0c134fe8dd62c2a606c14af44526ccf", checked := Try.checked }
namespace Rows
def none {H : Type} : Left H := { results := [], args := [] }

/-- 'rialtolaw09.SnapCompacts': WHATEVER THE INPUT: true; the input reads as it did. -/
def snapCompactsSpec : ChangeSpec := { name := "snapCompacts", fn := fun _ => fun
  | [d1, d2] => { results := [.lit (.bool true)], args := [d1, d2] }
  | _ => none }
def snapCompactsRow : OpenClaim := { program := "ytiebeiloooblpaa", sum := "d1a083eb020bd2220b69fc9222929fc9a0c134fe8dd62c2a606c14af44526ccf", func := "rialto/rialtolaw09.SnapCompacts", spec := "snapCompacts", unfollowed := true, recurses := true, apart := false }
def SnapCompactsSaid : Prop := snapCompactsRow.holds Try.pinned (OpenSpec.ofChange snapCompactsSpec)

/-- ITS FALSE NEIGHBOUR: 'it returns false'. Refute it at one input. -/
def snapCompactsWrong : ChangeSpec := { name := "snapCompacts", fn := fun _ => fun
  | [d1, d2] => { results := [.lit (.bool false)], args := [d1, d2] }
  | _ => none }
def SnapCompactsWrongFalsely : Prop := snapCompactsRow.holds Try.pinned (OpenSpec.ofChange snapCompactsWrong)

/-- 'rialtolaw09.SnapInstalls': WHATEVER THE INPUT: true; the input reads as it did. -/
def snapInstallsSpec : ChangeSpec := { name := "snapInstalls", fn := fun _ => fun
  | [d1, d2] => { results := [.lit (.bool true)], args := [d1, d2] }
  | _ => none }
def snapInstallsRow : OpenClaim := { program := "ytiebeiloooblpaa", sum := "d1a083eb020bd2220b69fc9222929fc9a0c134fe8dd62c2a606c14af44526ccf", func := "rialto/rialtolaw09.SnapInstalls", spec := "snapInstalls", unfollowed := true, recurses := true, apart := false }
def SnapInstallsSaid : Prop := snapInstallsRow.holds Try.pinned (OpenSpec.ofChange snapInstallsSpec)

/-- ITS FALSE NEIGHBOUR: 'it returns false'. Refute it at one input. -/
def snapInstallsWrong : ChangeSpec := { name := "snapInstalls", fn := fun _ => fun
  | [d1, d2] => { results := [.lit (.bool false)], args := [d1, d2] }
  | _ => none }
def SnapInstallsWrongFalsely : Prop := snapInstallsRow.holds Try.pinned (OpenSpec.ofChange snapInstallsWrong)

/-- 'rialtolaw09.SnapTwice': WHATEVER THE INPUT: true; the input reads as it did. -/
def snapTwiceSpec : ChangeSpec := { name := "snapTwice", fn := fun _ => fun
  | [d1, d2, d3] => { results := [.lit (.bool true)], args := [d1, d2, d3] }
  | _ => none }
def snapTwiceRow : OpenClaim := { program := "ytiebeiloooblpaa", sum := "d1a083eb020bd2220b69fc9222929fc9a0c134fe8dd62c2a606c14af44526ccf", func := "rialto/rialtolaw09.SnapTwice", spec := "snapTwice", unfollowed := true, recurses := true, apart := false }
def SnapTwiceSaid : Prop := snapTwiceRow.holds Try.pinned (OpenSpec.ofChange snapTwiceSpec)

/-- ITS FALSE NEIGHBOUR: 'it returns false'. Refute it at one input. -/
def snapTwiceWrong : ChangeSpec := { name := "snapTwice", fn := fun _ => fun
  | [d1, d2, d3] => { results := [.lit (.bool false)], args := [d1, d2, d3] }
  | _ => none }
def SnapTwiceWrongFalsely : Prop := snapTwiceRow.holds Try.pinned (OpenSpec.ofChange snapTwiceWrong)

/-- 'rialtolaw08.EntriesAccept': WHATEVER THE INPUT: true; the input reads as it did. -/
def entriesAcceptSpec : ChangeSpec := { name := "entriesAccept", fn := fun _ => fun
  | [d1, d2] => { results := [.lit (.bool true)], args := [d1, d2] }
  | _ => none }
def entriesAcceptRow : OpenClaim := { program := "ytiebeiloooblpaa", sum := "d1a083eb020bd2220b69fc9222929fc9a0c134fe8dd62c2a606c14af44526ccf", func := "rialto/rialtolaw08.EntriesAccept", spec := "entriesAccept", unfollowed := true, recurses := true, apart := false }
def EntriesAcceptSaid : Prop := entriesAcceptRow.holds Try.pinned (OpenSpec.ofChange entriesAcceptSpec)

/-- ITS FALSE NEIGHBOUR: 'it returns false'. Refute it at one input. -/
def entriesAcceptWrong : ChangeSpec := { name := "entriesAccept", fn := fun _ => fun
  | [d1, d2] => { results := [.lit (.bool false)], args := [d1, d2] }
  | _ => none }
def EntriesAcceptWrongFalsely : Prop := entriesAcceptRow.holds Try.pinned (OpenSpec.ofChange entriesAcceptWrong)

/-- 'rialtolaw08.EntriesAdvance': WHATEVER THE INPUT: true; the input reads as it did. -/
def entriesAdvanceSpec : ChangeSpec := { name := "entriesAdvance", fn := fun _ => fun
  | [d1, d2, d3] => { results := [.lit (.bool true)], args := [d1, d2, d3] }
  | _ => none }
def entriesAdvanceRow : OpenClaim := { program := "ytiebeiloooblpaa", sum := "d1a083eb020bd2220b69fc9222929fc9a0c134fe8dd62c2a606c14af44526ccf", func := "rialto/rialtolaw08.EntriesAdvance", spec := "entriesAdvance", unfollowed := true, recurses := true, apart := false }
def EntriesAdvanceSaid : Prop := entriesAdvanceRow.holds Try.pinned (OpenSpec.ofChange entriesAdvanceSpec)

/-- ITS FALSE NEIGHBOUR: 'it returns false'. Refute it at one input. -/
def entriesAdvanceWrong : ChangeSpec := { name := "entriesAdvance", fn := fun _ => fun
  | [d1, d2, d3] => { results := [.lit (.bool false)], args := [d1, d2, d3] }
  | _ => none }
def EntriesAdvanceWrongFalsely : Prop := entriesAdvanceRow.holds Try.pinned (OpenSpec.ofChange entriesAdvanceWrong)

/-- 'rialtolaw08.EntriesAgain': WHATEVER THE INPUT: true; the input reads as it did. -/
def entriesAgainSpec : ChangeSpec := { name := "entriesAgain", fn := fun _ => fun
  | [d1, d2] => { results := [.lit (.bool true)], args := [d1, d2] }
  | _ => none }
def entriesAgainRow : OpenClaim := { program := "ytiebeiloooblpaa", sum := "d1a083eb020bd2220b69fc9222929fc9a0c134fe8dd62c2a606c14af44526ccf", func := "rialto/rialtolaw08.EntriesAgain", spec := "entriesAgain", unfollowed := true, recurses := true, apart := false }
def EntriesAgainSaid : Prop := entriesAgainRow.holds Try.pinned (OpenSpec.ofChange entriesAgainSpec)

/-- ITS FALSE NEIGHBOUR: 'it returns false'. Refute it at one input. -/
def entriesAgainWrong : ChangeSpec := { name := "entriesAgain", fn := fun _ => fun
  | [d1, d2] => { results := [.lit (.bool false)], args := [d1, d2] }
  | _ => none }
def EntriesAgainWrongFalsely : Prop := entriesAgainRow.holds Try.pinned (OpenSpec.ofChange entriesAgainWrong)

/-- 'rialtolaw08.EntriesTell': WHATEVER THE INPUT: true; the input reads as it did. -/
def entriesTellSpec : ChangeSpec := { name := "entriesTell", fn := fun _ => fun
  | [d1, d2, d3] => { results := [.lit (.bool true)], args := [d1, d2, d3] }
  | _ => none }
def entriesTellRow : OpenClaim := { program := "ytiebeiloooblpaa", sum := "d1a083eb020bd2220b69fc9222929fc9a0c134fe8dd62c2a606c14af44526ccf", func := "rialto/rialtolaw08.EntriesTell", spec := "entriesTell", unfollowed := true, recurses := true, apart := false }
def EntriesTellSaid : Prop := entriesTellRow.holds Try.pinned (OpenSpec.ofChange entriesTellSpec)

/-- ITS FALSE NEIGHBOUR: 'it returns false'. Refute it at one input. -/
def entriesTellWrong : ChangeSpec := { name := "entriesTell", fn := fun _ => fun
  | [d1, d2, d3] => { results := [.lit (.bool false)], args := [d1, d2, d3] }
  | _ => none }
def EntriesTellWrongFalsely : Prop := entriesTellRow.holds Try.pinned (OpenSpec.ofChange entriesTellWrong)

/-- 'rialtolaw08.EntriesKeep': WHATEVER THE INPUT: true; the input reads as it did. -/
def entriesKeepSpec : ChangeSpec := { name := "entriesKeep", fn := fun _ => fun
  | [d1, d2] => { results := [.lit (.bool true)], args := [d1, d2] }
  | _ => none }
def entriesKeepRow : OpenClaim := { program := "ytiebeiloooblpaa", sum := "d1a083eb020bd2220b69fc9222929fc9a0c134fe8dd62c2a606c14af44526ccf", func := "rialto/rialtolaw08.EntriesKeep", spec := "entriesKeep", unfollowed := true, recurses := true, apart := false }
def EntriesKeepSaid : Prop := entriesKeepRow.holds Try.pinned (OpenSpec.ofChange entriesKeepSpec)

/-- ITS FALSE NEIGHBOUR: 'it returns false'. Refute it at one input. -/
def entriesKeepWrong : ChangeSpec := { name := "entriesKeep", fn := fun _ => fun
  | [d1, d2] => { results := [.lit (.bool false)], args := [d1, d2] }
  | _ => none }
def EntriesKeepWrongFalsely : Prop := entriesKeepRow.holds Try.pinned (OpenSpec.ofChange entriesKeepWrong)

/-- 'rialtolaw08.EntriesCopy': WHATEVER THE INPUT: true; the input reads as it did. -/
def entriesCopySpec : ChangeSpec := { name := "entriesCopy", fn := fun _ => fun
  | [d1, d2, d3] => { results := [.lit (.bool true)], args := [d1, d2, d3] }
  | _ => none }
def entriesCopyRow : OpenClaim := { program := "ytiebeiloooblpaa", sum := "d1a083eb020bd2220b69fc9222929fc9a0c134fe8dd62c2a606c14af44526ccf", func := "rialto/rialtolaw08.EntriesCopy", spec := "entriesCopy", unfollowed := true, recurses := true, apart := false }
def EntriesCopySaid : Prop := entriesCopyRow.holds Try.pinned (OpenSpec.ofChange entriesCopySpec)

/-- ITS FALSE NEIGHBOUR: 'it returns false'. Refute it at one input. -/
def entriesCopyWrong : ChangeSpec := { name := "entriesCopy", fn := fun _ => fun
  | [d1, d2, d3] => { results := [.lit (.bool false)], args := [d1, d2, d3] }
  | _ => none }
def EntriesCopyWrongFalsely : Prop := entriesCopyRow.holds Try.pinned (OpenSpec.ofChange entriesCopyWrong)

/-- 'rialtolaw08.EntriesAdd': WHATEVER THE INPUT: true; the input reads as it did. -/
def entriesAddSpec : ChangeSpec := { name := "entriesAdd", fn := fun _ => fun
  | [d1, d2] => { results := [.lit (.bool true)], args := [d1, d2] }
  | _ => none }
def entriesAddRow : OpenClaim := { program := "ytiebeiloooblpaa", sum := "d1a083eb020bd2220b69fc9222929fc9a0c134fe8dd62c2a606c14af44526ccf", func := "rialto/rialtolaw08.EntriesAdd", spec := "entriesAdd", unfollowed := true, recurses := true, apart := false }
def EntriesAddSaid : Prop := entriesAddRow.holds Try.pinned (OpenSpec.ofChange entriesAddSpec)

/-- ITS FALSE NEIGHBOUR: 'it returns false'. Refute it at one input. -/
def entriesAddWrong : ChangeSpec := { name := "entriesAdd", fn := fun _ => fun
  | [d1, d2] => { results := [.lit (.bool false)], args := [d1, d2] }
  | _ => none }
def EntriesAddWrongFalsely : Prop := entriesAddRow.holds Try.pinned (OpenSpec.ofChange entriesAddWrong)

/- THE SECOND FORM. 'bulk': how many values and letters a reading holds, each counted each time it is reached (what is shared counts as often as it is met; a slice's spare places count too). A statement '..UptoSaid' is the law's where the arguments, and the package variables that the reading takes, are together of bulk at most 1048576: NARROWER than '..Said'. Prove '..Said' where nothing that the law and all that it calls make is longer than what came in: it says more and counts as full. Else prove '..UptoSaid'. A law counts once. -/
mutual
def uptoBulk {H : Type} : DataW H → Nat
  | .lit (.string bytes) => bytes.length + 1
  | .lit _ => 1
  | .nil => 1
  | .ptr d => uptoBulk d + 1
  | .slice elems spare => uptoBulkAll elems + uptoBulkAll spare + 1
  | .agg parts => uptoBulkAll parts + 1
  | .iface _ d => uptoBulk d + 1
  | .map entries => uptoBulkEntries entries + 1
  | .held _ => 1
def uptoBulkAll {H : Type} : List (DataW H) → Nat
  | [] => 0
  | d :: r => uptoBulk d + uptoBulkAll r
def uptoBulkEntries {H : Type} : List (Lit × DataW H) → Nat
  | [] => 0
  | x :: r => uptoBulkEntry x + uptoBulkEntries r
def uptoBulkEntry {H : Type} : Lit × DataW H → Nat
  | (.string bytes, d) => bytes.length + uptoBulk d + 1
  | (_, d) => uptoBulk d + 1
 end
def uptoSmall : (H : Type) → List (DataW H) → Bool := fun _ ds => decide (uptoBulkAll ds ≤ 1048576)
def OpenSpec.upto (s : _root_.Go.ChangeSpec) : _root_.Go.OpenSpec := { _root_.Go.OpenSpec.ofChange s with cond := some uptoSmall }

/-- 'rialtolaw09.SnapCompacts', WHERE WHAT IT READS IS OF BULK AT MOST 1048576: true; the input reads as it did. -/
def snapCompactsUptoRow : OpenClaim := { program := "ytiebeiloooblpaa", sum := "d1a083eb020bd2220b69fc9222929fc9a0c134fe8dd62c2a606c14af44526ccf", func := "rialto/rialtolaw09.SnapCompacts", spec := "snapCompacts", unfollowed := true, recurses := true, apart := false, narrowed := true }
def SnapCompactsUptoSaid : Prop := snapCompactsUptoRow.holds Try.pinned (OpenSpec.upto snapCompactsSpec)

/-- 'rialtolaw09.SnapInstalls', WHERE WHAT IT READS IS OF BULK AT MOST 1048576: true; the input reads as it did. -/
def snapInstallsUptoRow : OpenClaim := { program := "ytiebeiloooblpaa", sum := "d1a083eb020bd2220b69fc9222929fc9a0c134fe8dd62c2a606c14af44526ccf", func := "rialto/rialtolaw09.SnapInstalls", spec := "snapInstalls", unfollowed := true, recurses := true, apart := false, narrowed := true }
def SnapInstallsUptoSaid : Prop := snapInstallsUptoRow.holds Try.pinned (OpenSpec.upto snapInstallsSpec)

/-- 'rialtolaw09.SnapTwice', WHERE WHAT IT READS IS OF BULK AT MOST 1048576: true; the input reads as it did. -/
def snapTwiceUptoRow : OpenClaim := { program := "ytiebeiloooblpaa", sum := "d1a083eb020bd2220b69fc9222929fc9a0c134fe8dd62c2a606c14af44526ccf", func := "rialto/rialtolaw09.SnapTwice", spec := "snapTwice", unfollowed := true, recurses := true, apart := false, narrowed := true }
def SnapTwiceUptoSaid : Prop := snapTwiceUptoRow.holds Try.pinned (OpenSpec.upto snapTwiceSpec)

/-- 'rialtolaw08.EntriesAccept', WHERE WHAT IT READS IS OF BULK AT MOST 1048576: true; the input reads as it did. -/
def entriesAcceptUptoRow : OpenClaim := { program := "ytiebeiloooblpaa", sum := "d1a083eb020bd2220b69fc9222929fc9a0c134fe8dd62c2a606c14af44526ccf", func := "rialto/rialtolaw08.EntriesAccept", spec := "entriesAccept", unfollowed := true, recurses := true, apart := false, narrowed := true }
def EntriesAcceptUptoSaid : Prop := entriesAcceptUptoRow.holds Try.pinned (OpenSpec.upto entriesAcceptSpec)

/-- 'rialtolaw08.EntriesAdvance', WHERE WHAT IT READS IS OF BULK AT MOST 1048576: true; the input reads as it did. -/
def entriesAdvanceUptoRow : OpenClaim := { program := "ytiebeiloooblpaa", sum := "d1a083eb020bd2220b69fc9222929fc9a0c134fe8dd62c2a606c14af44526ccf", func := "rialto/rialtolaw08.EntriesAdvance", spec := "entriesAdvance", unfollowed := true, recurses := true, apart := false, narrowed := true }
def EntriesAdvanceUptoSaid : Prop := entriesAdvanceUptoRow.holds Try.pinned (OpenSpec.upto entriesAdvanceSpec)

/-- 'rialtolaw08.EntriesAgain', WHERE WHAT IT READS IS OF BULK AT MOST 1048576: true; the input reads as it did. -/
def entriesAgainUptoRow : OpenClaim := { program := "ytiebeiloooblpaa", sum := "d1a083eb020bd2220b69fc9222929fc9a0c134fe8dd62c2a606c14af44526ccf", func := "rialto/rialtolaw08.EntriesAgain", spec := "entriesAgain", unfollowed := true, recurses := true, apart := false, narrowed := true }
def EntriesAgainUptoSaid : Prop := entriesAgainUptoRow.holds Try.pinned (OpenSpec.upto entriesAgainSpec)

/-- 'rialtolaw08.EntriesTell', WHERE WHAT IT READS IS OF BULK AT MOST 1048576: true; the input reads as it did. -/
def entriesTellUptoRow : OpenClaim := { program := "ytiebeiloooblpaa", sum := "d1a083eb020bd2220b69fc9222929fc9a0c134fe8dd62c2a606c14af44526ccf", func := "rialto/rialtolaw08.EntriesTell", spec := "entriesTell", unfollowed := true, recurses := true, apart := false, narrowed := true }
def EntriesTellUptoSaid : Prop := entriesTellUptoRow.holds Try.pinned (OpenSpec.upto entriesTellSpec)

/-- 'rialtolaw08.EntriesKeep', WHERE WHAT IT READS IS OF BULK AT MOST 1048576: true; the input reads as it did. -/
def entriesKeepUptoRow : OpenClaim := { program := "ytiebeiloooblpaa", sum := "d1a083eb020bd2220b69fc9222929fc9a0c134fe8dd62c2a606c14af44526ccf", func := "rialto/rialtolaw08.EntriesKeep", spec := "entriesKeep", unfollowed := true, recurses := true, apart := false, narrowed := true }
def EntriesKeepUptoSaid : Prop := entriesKeepUptoRow.holds Try.pinned (OpenSpec.upto entriesKeepSpec)

/-- 'rialtolaw08.EntriesCopy', WHERE WHAT IT READS IS OF BULK AT MOST 1048576: true; the input reads as it did. -/
def entriesCopyUptoRow : OpenClaim := { program := "ytiebeiloooblpaa", sum := "d1a083eb020bd2220b69fc9222929fc9a0c134fe8dd62c2a606c14af44526ccf", func := "rialto/rialtolaw08.EntriesCopy", spec := "entriesCopy", unfollowed := true, recurses := true, apart := false, narrowed := true }
def EntriesCopyUptoSaid : Prop := entriesCopyUptoRow.holds Try.pinned (OpenSpec.upto entriesCopySpec)

/-- 'rialtolaw08.EntriesAdd', WHERE WHAT IT READS IS OF BULK AT MOST 1048576: true; the input reads as it did. -/
def entriesAddUptoRow : OpenClaim := { program := "ytiebeiloooblpaa", sum := "d1a083eb020bd2220b69fc9222929fc9a0c134fe8dd62c2a606c14af44526ccf", func := "rialto/rialtolaw08.EntriesAdd", spec := "entriesAdd", unfollowed := true, recurses := true, apart := false, narrowed := true }
def EntriesAddUptoSaid : Prop := entriesAddUptoRow.holds Try.pinned (OpenSpec.upto entriesAddSpec)

end Rows
end Go.Proofs.Ytiebeiloooblpaa
