/-
  No cell of these rows narrows 'for every input' (looked for: loops, veiled, ifaces, maps, wideKeys, modest, calm, conditions, laid).
  DERIVED. THE GIVEN ROWS OF THIS SEAT. 9 by the template 'for every input the law returns true; each argument reads behind the call as it read before'; 0 by the template 'total and deterministic' (their statements: YtgpfdflpkaeedaaTotals.lean).
  GIVEN WITH THE SEED: the statements are not yours to turn. If you find one false, say at which input.
  Laid BY PROGRAM, IN A SANDBOX (cutbox-rows.mjs): the forced cells as the released guide's own fill.sh prints them over the translation fd7f56082f7d8fd8… (all of the seat's roots in one cut). By AI agents, Wed Nov 11 2026. No macro, syntax, notation, axiom, sorry.
-/
import Derived.Test.YtgpfdflpkaeedaaChecked
import GoSem.Claim
import GoSem.ClaimJoined
import GoSem.ClaimMapViews
import Derived.JoinedTies
import Derived.KernelRfl
namespace Go.Proofs.Ytgpfdflpkaeedaa
/- THE CELL 'sum', in the pinned program and in every row, IS THE sha256 OF THE DUMP (.gsa) THAT YtgpfdflpkaeedaaProg.lean LOADS. Nothing in Lean hashes anything: it is a label: what it is worth is what the hold of that sum in a sandbox is worth. -/
noncomputable def Try.pinned : Pinned := { name := "ytgpfdflpkaeedaa", sum := "fd7f56082f7d8fd86a4c3bf47b7d35b24d0cc765894177f2523186d4996c671d", checked := Try.checked }
namespace Rows
def none {H : Type} : Left H := { results := [], args := [] }

/-- 'lemmarylaw01.TermAlike': WHATEVER THE INPUT: true; the input reads as it did. -/
def termAlikeSpec : ChangeSpec := { name := "termAlike", fn := fun _ => fun
  | [d1, d2] => { results := [.lit (.bool true)], args := [d1, d2] }
  | _ => none }
def termAlikeRow : OpenClaim := { program := "ytgpfdflpkaeedaa", sum := "fd7f56082f7d8fd86a4c3bf47b7d35b24d0cc765894177f2523186d4996c671d", func := "lemmary/lemmarylaw01.TermAlike", spec := "termAlike", unfollowed := true, recurses := true, apart := false }
def TermAlikeSaid : Prop := termAlikeRow.holds Try.pinned (OpenSpec.ofChange termAlikeSpec)

/-- ITS FALSE NEIGHBOUR: 'it returns false'. Refute it at one input. -/
def termAlikeWrong : ChangeSpec := { name := "termAlike", fn := fun _ => fun
  | [d1, d2] => { results := [.lit (.bool false)], args := [d1, d2] }
  | _ => none }
def TermAlikeWrongFalsely : Prop := termAlikeRow.holds Try.pinned (OpenSpec.ofChange termAlikeWrong)

/-- 'lemmarylaw01.TermCanonical': WHATEVER THE INPUT: true; the input reads as it did. -/
def termCanonicalSpec : ChangeSpec := { name := "termCanonical", fn := fun _ => fun
  | [d1, d2] => { results := [.lit (.bool true)], args := [d1, d2] }
  | _ => none }
def termCanonicalRow : OpenClaim := { program := "ytgpfdflpkaeedaa", sum := "fd7f56082f7d8fd86a4c3bf47b7d35b24d0cc765894177f2523186d4996c671d", func := "lemmary/lemmarylaw01.TermCanonical", spec := "termCanonical", unfollowed := true, recurses := true, apart := false }
def TermCanonicalSaid : Prop := termCanonicalRow.holds Try.pinned (OpenSpec.ofChange termCanonicalSpec)

/-- ITS FALSE NEIGHBOUR: 'it returns false'. Refute it at one input. -/
def termCanonicalWrong : ChangeSpec := { name := "termCanonical", fn := fun _ => fun
  | [d1, d2] => { results := [.lit (.bool false)], args := [d1, d2] }
  | _ => none }
def TermCanonicalWrongFalsely : Prop := termCanonicalRow.holds Try.pinned (OpenSpec.ofChange termCanonicalWrong)

/-- 'lemmarylaw01.TermValid': WHATEVER THE INPUT: true; the input reads as it did. -/
def termValidSpec : ChangeSpec := { name := "termValid", fn := fun _ => fun
  | [d1, d2] => { results := [.lit (.bool true)], args := [d1, d2] }
  | _ => none }
def termValidRow : OpenClaim := { program := "ytgpfdflpkaeedaa", sum := "fd7f56082f7d8fd86a4c3bf47b7d35b24d0cc765894177f2523186d4996c671d", func := "lemmary/lemmarylaw01.TermValid", spec := "termValid", unfollowed := true, recurses := true, apart := false }
def TermValidSaid : Prop := termValidRow.holds Try.pinned (OpenSpec.ofChange termValidSpec)

/-- ITS FALSE NEIGHBOUR: 'it returns false'. Refute it at one input. -/
def termValidWrong : ChangeSpec := { name := "termValid", fn := fun _ => fun
  | [d1, d2] => { results := [.lit (.bool false)], args := [d1, d2] }
  | _ => none }
def TermValidWrongFalsely : Prop := termValidRow.holds Try.pinned (OpenSpec.ofChange termValidWrong)

/-- 'lemmarylaw01.TermDown': WHATEVER THE INPUT: true; the input reads as it did. -/
def termDownSpec : ChangeSpec := { name := "termDown", fn := fun _ => fun
  | [d1, d2] => { results := [.lit (.bool true)], args := [d1, d2] }
  | _ => none }
def termDownRow : OpenClaim := { program := "ytgpfdflpkaeedaa", sum := "fd7f56082f7d8fd86a4c3bf47b7d35b24d0cc765894177f2523186d4996c671d", func := "lemmary/lemmarylaw01.TermDown", spec := "termDown", unfollowed := true, recurses := true, apart := false }
def TermDownSaid : Prop := termDownRow.holds Try.pinned (OpenSpec.ofChange termDownSpec)

/-- ITS FALSE NEIGHBOUR: 'it returns false'. Refute it at one input. -/
def termDownWrong : ChangeSpec := { name := "termDown", fn := fun _ => fun
  | [d1, d2] => { results := [.lit (.bool false)], args := [d1, d2] }
  | _ => none }
def TermDownWrongFalsely : Prop := termDownRow.holds Try.pinned (OpenSpec.ofChange termDownWrong)

/-- 'lemmarylaw01.TermOrder': WHATEVER THE INPUT: true; the input reads as it did. -/
def termOrderSpec : ChangeSpec := { name := "termOrder", fn := fun _ => fun
  | [d] => { results := [.lit (.bool true)], args := [d] }
  | _ => none }
def termOrderRow : OpenClaim := { program := "ytgpfdflpkaeedaa", sum := "fd7f56082f7d8fd86a4c3bf47b7d35b24d0cc765894177f2523186d4996c671d", func := "lemmary/lemmarylaw01.TermOrder", spec := "termOrder", unfollowed := true, recurses := true, apart := false }
def TermOrderSaid : Prop := termOrderRow.holds Try.pinned (OpenSpec.ofChange termOrderSpec)

/-- ITS FALSE NEIGHBOUR: 'it returns false'. Refute it at one input. -/
def termOrderWrong : ChangeSpec := { name := "termOrder", fn := fun _ => fun
  | [d] => { results := [.lit (.bool false)], args := [d] }
  | _ => none }
def TermOrderWrongFalsely : Prop := termOrderRow.holds Try.pinned (OpenSpec.ofChange termOrderWrong)

/-- 'lemmarylaw01.TermBuilt': WHATEVER THE INPUT: true; the input reads as it did. -/
def termBuiltSpec : ChangeSpec := { name := "termBuilt", fn := fun _ => fun
  | [d1, d2, d3] => { results := [.lit (.bool true)], args := [d1, d2, d3] }
  | _ => none }
def termBuiltRow : OpenClaim := { program := "ytgpfdflpkaeedaa", sum := "fd7f56082f7d8fd86a4c3bf47b7d35b24d0cc765894177f2523186d4996c671d", func := "lemmary/lemmarylaw01.TermBuilt", spec := "termBuilt", unfollowed := true, recurses := true, apart := false }
def TermBuiltSaid : Prop := termBuiltRow.holds Try.pinned (OpenSpec.ofChange termBuiltSpec)

/-- ITS FALSE NEIGHBOUR: 'it returns false'. Refute it at one input. -/
def termBuiltWrong : ChangeSpec := { name := "termBuilt", fn := fun _ => fun
  | [d1, d2, d3] => { results := [.lit (.bool false)], args := [d1, d2, d3] }
  | _ => none }
def TermBuiltWrongFalsely : Prop := termBuiltRow.holds Try.pinned (OpenSpec.ofChange termBuiltWrong)

/-- 'lemmarylaw01.TermArgs': WHATEVER THE INPUT: true; the input reads as it did. -/
def termArgsSpec : ChangeSpec := { name := "termArgs", fn := fun _ => fun
  | [d1, d2] => { results := [.lit (.bool true)], args := [d1, d2] }
  | _ => none }
def termArgsRow : OpenClaim := { program := "ytgpfdflpkaeedaa", sum := "fd7f56082f7d8fd86a4c3bf47b7d35b24d0cc765894177f2523186d4996c671d", func := "lemmary/lemmarylaw01.TermArgs", spec := "termArgs", unfollowed := true, recurses := true, apart := false }
def TermArgsSaid : Prop := termArgsRow.holds Try.pinned (OpenSpec.ofChange termArgsSpec)

/-- ITS FALSE NEIGHBOUR: 'it returns false'. Refute it at one input. -/
def termArgsWrong : ChangeSpec := { name := "termArgs", fn := fun _ => fun
  | [d1, d2] => { results := [.lit (.bool false)], args := [d1, d2] }
  | _ => none }
def TermArgsWrongFalsely : Prop := termArgsRow.holds Try.pinned (OpenSpec.ofChange termArgsWrong)

/-- 'lemmarylaw01.TermPaths': WHATEVER THE INPUT: true; the input reads as it did. -/
def termPathsSpec : ChangeSpec := { name := "termPaths", fn := fun _ => fun
  | [d1, d2, d3] => { results := [.lit (.bool true)], args := [d1, d2, d3] }
  | _ => none }
def termPathsRow : OpenClaim := { program := "ytgpfdflpkaeedaa", sum := "fd7f56082f7d8fd86a4c3bf47b7d35b24d0cc765894177f2523186d4996c671d", func := "lemmary/lemmarylaw01.TermPaths", spec := "termPaths", unfollowed := true, recurses := true, apart := false }
def TermPathsSaid : Prop := termPathsRow.holds Try.pinned (OpenSpec.ofChange termPathsSpec)

/-- ITS FALSE NEIGHBOUR: 'it returns false'. Refute it at one input. -/
def termPathsWrong : ChangeSpec := { name := "termPaths", fn := fun _ => fun
  | [d1, d2, d3] => { results := [.lit (.bool false)], args := [d1, d2, d3] }
  | _ => none }
def TermPathsWrongFalsely : Prop := termPathsRow.holds Try.pinned (OpenSpec.ofChange termPathsWrong)

/-- 'lemmarylaw01.TermPuts': WHATEVER THE INPUT: true; the input reads as it did. -/
def termPutsSpec : ChangeSpec := { name := "termPuts", fn := fun _ => fun
  | [d1, d2] => { results := [.lit (.bool true)], args := [d1, d2] }
  | _ => none }
def termPutsRow : OpenClaim := { program := "ytgpfdflpkaeedaa", sum := "fd7f56082f7d8fd86a4c3bf47b7d35b24d0cc765894177f2523186d4996c671d", func := "lemmary/lemmarylaw01.TermPuts", spec := "termPuts", unfollowed := true, recurses := true, apart := false }
def TermPutsSaid : Prop := termPutsRow.holds Try.pinned (OpenSpec.ofChange termPutsSpec)

/-- ITS FALSE NEIGHBOUR: 'it returns false'. Refute it at one input. -/
def termPutsWrong : ChangeSpec := { name := "termPuts", fn := fun _ => fun
  | [d1, d2] => { results := [.lit (.bool false)], args := [d1, d2] }
  | _ => none }
def TermPutsWrongFalsely : Prop := termPutsRow.holds Try.pinned (OpenSpec.ofChange termPutsWrong)

/- THE SECOND FORM. 'bulk': how many values and letters a reading holds, each counted each time it is reached (what is shared counts as often as it is met; a slice's spare places count too). A statement '..UptoSaid' is the law's where the arguments, and the package variables that the reading takes, are together of bulk at most 1048576: NARROWER than '..Said'. Prove '..Said' where nothing that the law and all that it calls make is longer than what came in: it says more and counts as full. Else prove '..UptoSaid'. A law counts once. -/
mutual
def uptoBulk {H : Type} : DataW H → Nat
  | .lit (.string bytes) => bytes.length + 1
  | .lit _ => 1
  | .nil => 1
  | .ptr d => uptoBulk d + 1
  | .slice elems spare => uptoBulkAll elems + uptoBulkAll spare + 1
  | .agg parts => uptoBulkAll parts + 1
  | .iface _ d => uptoBulk d + 1
  | .map entries => uptoBulkEntries entries + 1
  | .held _ => 1
def uptoBulkAll {H : Type} : List (DataW H) → Nat
  | [] => 0
  | d :: r => uptoBulk d + uptoBulkAll r
def uptoBulkEntries {H : Type} : List (Lit × DataW H) → Nat
  | [] => 0
  | x :: r => uptoBulkEntry x + uptoBulkEntries r
def uptoBulkEntry {H : Type} : Lit × DataW H → Nat
  | (.string bytes, d) => bytes.length + uptoBulk d + 1
  | (_, d) => uptoBulk d + 1
 end
def uptoSmall : (H : Type) → List (DataW H) → Bool := fun _ ds => decide (uptoBulkAll ds ≤ 1048576)
def OpenSpec.upto (s : _root_.Go.ChangeSpec) : _root_.Go.OpenSpec := { _root_.Go.OpenSpec.ofChange s with cond := some uptoSmall }

/-- 'lemmarylaw01.TermAlike', WHERE WHAT IT READS IS OF BULK AT MOST 1048576: true; the input reads as it did. -/
def termAlikeUptoRow : OpenClaim := { program := "ytgpfdflpkaeedaa", sum := "fd7f56082f7d8fd86a4c3bf47b7d35b24d0cc765894177f2523186d4996c671d", func := "lemmary/lemmarylaw01.TermAlike", spec := "termAlike", unfollowed := true, recurses := true, apart := false, narrowed := true }
def TermAlikeUptoSaid : Prop := termAlikeUptoRow.holds Try.pinned (OpenSpec.upto termAlikeSpec)

/-- 'lemmarylaw01.TermCanonical', WHERE WHAT IT READS IS OF BULK AT MOST 1048576: true; the input reads as it did. -/
def termCanonicalUptoRow : OpenClaim := { program := "ytgpfdflpkaeedaa", sum := "fd7f56082f7d8fd86a4c3bf47b7d35b24d0cc765894177f2523186d4996c671d", func := "lemmary/lemmarylaw01.TermCanonical", spec := "termCanonical", unfollowed := true, recurses := true, apart := false, narrowed := true }
def TermCanonicalUptoSaid : Prop := termCanonicalUptoRow.holds Try.pinned (OpenSpec.upto termCanonicalSpec)

/-- 'lemmarylaw01.TermValid', WHERE WHAT IT READS IS OF BULK AT MOST 1048576: true; the input reads as it did. -/
def termValidUptoRow : OpenClaim := { program := "ytgpfdflpkaeedaa", sum := "fd7f56082f7d8fd86a4c3bf47b7d35b24d0cc765894177f2523186d4996c671d", func := "lemmary/lemmarylaw01.TermValid", spec := "termValid", unfollowed := true, recurses := true, apart := false, narrowed := true }
def TermValidUptoSaid : Prop := termValidUptoRow.holds Try.pinned (OpenSpec.upto termValidSpec)

/-- 'lemmarylaw01.TermDown', WHERE WHAT IT READS IS OF BULK AT MOST 1048576: true; the input reads as it did. -/
def termDownUptoRow : OpenClaim := { program := "ytgpfdflpkaeedaa", sum := "fd7f56082f7d8fd86a4c3bf47b7d35b24d0cc765894177f2523186d4996c671d", func := "lemmary/lemmarylaw01.TermDown", spec := "termDown", unfollowed := true, recurses := true, apart := false, narrowed := true }
def TermDownUptoSaid : Prop := termDownUptoRow.holds Try.pinned (OpenSpec.upto termDownSpec)

/-- 'lemmarylaw01.TermOrder', WHERE WHAT IT READS IS OF BULK AT MOST 1048576: true; the input reads as it did. -/
def termOrderUptoRow : OpenClaim := { program := "ytgpfdflpkaeedaa", sum := "fd7f56082f7d8fd86a4c3bf47b7d35b24d0cc765894177f2523186d4996c671d", func := "lemmary/lemmarylaw01.TermOrder", spec := "termOrder", unfollowed := true, recurses := true, apart := false, narrowed := true }
def TermOrderUptoSaid : Prop := termOrderUptoRow.holds Try.pinned (OpenSpec.upto termOrderSpec)

/-- 'lemmarylaw01.TermBuilt', WHERE WHAT IT READS IS OF BULK AT MOST 1048576: true; the input reads as it did. -/
def termBuiltUptoRow : OpenClaim := { program := "ytgpfdflpkaeedaa", sum := "fd7f56082f7d8fd86a4c3bf47b7d35b24d0cc765894177f2523186d4996c671d", func := "lemmary/lemmarylaw01.TermBuilt", spec := "termBuilt", unfollowed := true, recurses := true, apart := false, narrowed := true }
def TermBuiltUptoSaid : Prop := termBuiltUptoRow.holds Try.pinned (OpenSpec.upto termBuiltSpec)

/-- 'lemmarylaw01.TermArgs', WHERE WHAT IT READS IS OF BULK AT MOST 1048576: true; the input reads as it did. -/
def termArgsUptoRow : OpenClaim := { program := "ytgpfdflpkaeedaa", sum := "fd7f56082f7d8fd86a4c3bf47b7d35b24d0cc765894177f2523186d4996c671d", func := "lemmary/lemmarylaw01.TermArgs", spec := "termArgs", unfollowed := true, recurses := true, apart := false, narrowed := true }
def TermArgsUptoSaid : Prop := termArgsUptoRow.holds Try.pinned (OpenSpec.upto termArgsSpec)

/-- 'lemmarylaw01.TermPaths', WHERE WHAT IT READS IS OF BULK AT MOST 1048576: true; the input reads as it did. -/
def termPathsUptoRow : OpenClaim := { program := "ytgpfdflpkaeedaa", sum := "fd7f56082f7d8fd86a4c3bf47b7d35b24d0cc765894177f2523186d4996c671d", func := "lemmary/lemmarylaw01.TermPaths", spec := "termPaths", unfollowed := true, recurses := true, apart := false, narrowed := true }
def TermPathsUptoSaid : Prop := termPathsUptoRow.holds Try.pinned (OpenSpec.upto termPathsSpec)

/-- 'lemmarylaw01.TermPuts', WHERE WHAT IT READS IS OF BULK AT MOST 1048576: true; the input reads as it did. -/
def termPutsUptoRow : OpenClaim := { program := "ytgpfdflpkaeedaa", sum := "fd7f56082f7d8fd86a4c3bf47b7d35b24d0cc765894177f2523186d4996c671d", func := "lemmary/lemmarylaw01.TermPuts", spec := "termPuts", unfollowed := true, recurses := true, apart := false, narrowed := true }
def TermPutsUptoSaid : Prop := termPutsUptoRow.holds Try.pinned (OpenSpec.upto termPutsSpec)

end Rows
end Go.Proofs.Ytgpfdflpkaeedaa
