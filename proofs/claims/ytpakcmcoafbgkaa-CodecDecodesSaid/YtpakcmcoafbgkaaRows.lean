/-
  No cell of these rows narrows 'for every input' (looked for: loops, veiled, ifaces, maps, wideKeys, modest, calm, conditions, laid).
  DERIVED. THE GIVEN ROWS OF THIS SEAT. 6 by the template 'for every input the law returns true; each argument reads behind the call as it read before'; 0 by the template 'total and deterministic' (their statements: YtpakcmcoafbgkaaTotals.lean).
  GIVEN WITH THE SEED: the statements are not yours to turn. If you find one false, say at which input.
  Laid BY PROGRAM, IN A SANDBOX (cutbox-rows.mjs): the forced cells as the released guide's own fill.sh prints them over the translation 8eee2d332eb47dbf… (all of the seat's roots in one cut). By AI agents, Wed Nov 11 2026. No macro, syntax, notation, axiom, sorry.
-/
import Derived.Test.YtpakcmcoafbgkaaChecked
import GoSem.Claim
import GoSem.ClaimJoined
import GoSem.ClaimMapViews
import Derived.JoinedTies
import Derived.KernelRfl
namespace Go.Proofs.Ytpakcmcoafbgkaa
/- THE CELL 'sum', in the pinned program and in every row, IS THE sha256 OF THE DUMP (.gsa) THAT YtpakcmcoafbgkaaProg.lean LOADS. Nothing in Lean hashes anything: it is a label: what it is worth is what the hold of that sum in a sandbox is worth. -/
noncomputable def Try.pinned : Pinned := { name := "ytpakcmcoafbgkaa", sum := "8eee2d332eb47dbffeb202b3347a8e95b77197af15c874259c69eeabe50f9f00", checked := Try.checked }
namespace Rows
def none {H : Type} : Left H := { results := [], args := [] }

/-- 'outcroplaw07.CodecEncodes': WHATEVER THE INPUT: true; the input reads as it did. -/
def codecEncodesSpec : ChangeSpec := { name := "codecEncodes", fn := fun _ => fun
  | [d1, d2] => { results := [.lit (.bool true)], args := [d1, d2] }
  | _ => none }
def codecEncodesRow : OpenClaim := { program := "ytpakcmcoafbgkaa", sum := "8eee2d332eb47dbffeb202b3347a8e95b77197af15c874259c69eeabe50f9f00", func := "outcrop/outcroplaw07.CodecEncodes", spec := "codecEncodes", unfollowed := true, recurses := true, apart := false }
def CodecEncodesSaid : Prop := codecEncodesRow.holds Try.pinned (OpenSpec.ofChange codecEncodesSpec)

/-- ITS FALSE NEIGHBOUR: 'it returns false'. Refute it at one input. -/
def codecEncodesWrong : ChangeSpec := { name := "codecEncodes", fn := fun _ => fun
  | [d1, d2] => { results := [.lit (.bool false)], args := [d1, d2] }
  | _ => none }
def CodecEncodesWrongFalsely : Prop := codecEncodesRow.holds Try.pinned (OpenSpec.ofChange codecEncodesWrong)

/-- 'outcroplaw07.CodecBack': WHATEVER THE INPUT: true; the input reads as it did. -/
def codecBackSpec : ChangeSpec := { name := "codecBack", fn := fun _ => fun
  | [d1, d2] => { results := [.lit (.bool true)], args := [d1, d2] }
  | _ => none }
def codecBackRow : OpenClaim := { program := "ytpakcmcoafbgkaa", sum := "8eee2d332eb47dbffeb202b3347a8e95b77197af15c874259c69eeabe50f9f00", func := "outcrop/outcroplaw07.CodecBack", spec := "codecBack", unfollowed := true, recurses := true, apart := false }
def CodecBackSaid : Prop := codecBackRow.holds Try.pinned (OpenSpec.ofChange codecBackSpec)

/-- ITS FALSE NEIGHBOUR: 'it returns false'. Refute it at one input. -/
def codecBackWrong : ChangeSpec := { name := "codecBack", fn := fun _ => fun
  | [d1, d2] => { results := [.lit (.bool false)], args := [d1, d2] }
  | _ => none }
def CodecBackWrongFalsely : Prop := codecBackRow.holds Try.pinned (OpenSpec.ofChange codecBackWrong)

/-- 'outcroplaw07.CodecDecodes': WHATEVER THE INPUT: true; the input reads as it did. -/
def codecDecodesSpec : ChangeSpec := { name := "codecDecodes", fn := fun _ => fun
  | [d1, d2, d3] => { results := [.lit (.bool true)], args := [d1, d2, d3] }
  | _ => none }
def codecDecodesRow : OpenClaim := { program := "ytpakcmcoafbgkaa", sum := "8eee2d332eb47dbffeb202b3347a8e95b77197af15c874259c69eeabe50f9f00", func := "outcrop/outcroplaw07.CodecDecodes", spec := "codecDecodes", unfollowed := true, recurses := true, apart := false }
def CodecDecodesSaid : Prop := codecDecodesRow.holds Try.pinned (OpenSpec.ofChange codecDecodesSpec)

/-- ITS FALSE NEIGHBOUR: 'it returns false'. Refute it at one input. -/
def codecDecodesWrong : ChangeSpec := { name := "codecDecodes", fn := fun _ => fun
  | [d1, d2, d3] => { results := [.lit (.bool false)], args := [d1, d2, d3] }
  | _ => none }
def CodecDecodesWrongFalsely : Prop := codecDecodesRow.holds Try.pinned (OpenSpec.ofChange codecDecodesWrong)

/-- 'outcroplaw07.CodecSpoils': WHATEVER THE INPUT: true; the input reads as it did. -/
def codecSpoilsSpec : ChangeSpec := { name := "codecSpoils", fn := fun _ => fun
  | [d1, d2, d3, d4, d5] => { results := [.lit (.bool true)], args := [d1, d2, d3, d4, d5] }
  | _ => none }
def codecSpoilsRow : OpenClaim := { program := "ytpakcmcoafbgkaa", sum := "8eee2d332eb47dbffeb202b3347a8e95b77197af15c874259c69eeabe50f9f00", func := "outcrop/outcroplaw07.CodecSpoils", spec := "codecSpoils", unfollowed := true, recurses := true, apart := false }
def CodecSpoilsSaid : Prop := codecSpoilsRow.holds Try.pinned (OpenSpec.ofChange codecSpoilsSpec)

/-- ITS FALSE NEIGHBOUR: 'it returns false'. Refute it at one input. -/
def codecSpoilsWrong : ChangeSpec := { name := "codecSpoils", fn := fun _ => fun
  | [d1, d2, d3, d4, d5] => { results := [.lit (.bool false)], args := [d1, d2, d3, d4, d5] }
  | _ => none }
def CodecSpoilsWrongFalsely : Prop := codecSpoilsRow.holds Try.pinned (OpenSpec.ofChange codecSpoilsWrong)

/-- 'outcroplaw07.CodecPalettes': WHATEVER THE INPUT: true; the input reads as it did. -/
def codecPalettesSpec : ChangeSpec := { name := "codecPalettes", fn := fun _ => fun
  | [d1, d2] => { results := [.lit (.bool true)], args := [d1, d2] }
  | _ => none }
def codecPalettesRow : OpenClaim := { program := "ytpakcmcoafbgkaa", sum := "8eee2d332eb47dbffeb202b3347a8e95b77197af15c874259c69eeabe50f9f00", func := "outcrop/outcroplaw07.CodecPalettes", spec := "codecPalettes", unfollowed := true, recurses := true, apart := false }
def CodecPalettesSaid : Prop := codecPalettesRow.holds Try.pinned (OpenSpec.ofChange codecPalettesSpec)

/-- ITS FALSE NEIGHBOUR: 'it returns false'. Refute it at one input. -/
def codecPalettesWrong : ChangeSpec := { name := "codecPalettes", fn := fun _ => fun
  | [d1, d2] => { results := [.lit (.bool false)], args := [d1, d2] }
  | _ => none }
def CodecPalettesWrongFalsely : Prop := codecPalettesRow.holds Try.pinned (OpenSpec.ofChange codecPalettesWrong)

/-- 'outcroplaw07.CodecAgain': WHATEVER THE INPUT: true; the input reads as it did. -/
def codecAgainSpec : ChangeSpec := { name := "codecAgain", fn := fun _ => fun
  | [d1, d2, d3] => { results := [.lit (.bool true)], args := [d1, d2, d3] }
  | _ => none }
def codecAgainRow : OpenClaim := { program := "ytpakcmcoafbgkaa", sum := "8eee2d332eb47dbffeb202b3347a8e95b77197af15c874259c69eeabe50f9f00", func := "outcrop/outcroplaw07.CodecAgain", spec := "codecAgain", unfollowed := true, recurses := true, apart := false }
def CodecAgainSaid : Prop := codecAgainRow.holds Try.pinned (OpenSpec.ofChange codecAgainSpec)

/-- ITS FALSE NEIGHBOUR: 'it returns false'. Refute it at one input. -/
def codecAgainWrong : ChangeSpec := { name := "codecAgain", fn := fun _ => fun
  | [d1, d2, d3] => { results := [.lit (.bool false)], args := [d1, d2, d3] }
  | _ => none }
def CodecAgainWrongFalsely : Prop := codecAgainRow.holds Try.pinned (OpenSpec.ofChange codecAgainWrong)

/- THE SECOND FORM. 'bulk': how many values and letters a reading holds, each counted each time it is reached (what is shared counts as often as it is met; a slice's spare places count too). A statement '..UptoSaid' is the law's where the arguments, and the package variables that the reading takes, are together of bulk at most 1048576: NARROWER than '..Said'. Prove '..Said' where nothing that the law and all that it calls make is longer than what came in: it says more and counts as full. Else prove '..UptoSaid'. A law counts once. -/
mutual
def uptoBulk {H : Type} : DataW H → Nat
  | .lit (.string bytes) => bytes.length + 1
  | .lit _ => 1
  | .nil => 1
  | .ptr d => uptoBulk d + 1
  | .slice elems spare => uptoBulkAll elems + uptoBulkAll spare + 1
  | .agg parts => uptoBulkAll parts + 1
  | .iface _ d => uptoBulk d + 1
  | .map entries => uptoBulkEntries entries + 1
  | .held _ => 1
def uptoBulkAll {H : Type} : List (DataW H) → Nat
  | [] => 0
  | d :: r => uptoBulk d + uptoBulkAll r
def uptoBulkEntries {H : Type} : List (Lit × DataW H) → Nat
  | [] => 0
  | x :: r => uptoBulkEntry x + uptoBulkEntries r
def uptoBulkEntry {H : Type} : Lit × DataW H → Nat
  | (.string bytes, d) => bytes.length + uptoBulk d + 1
  | (_, d) => uptoBulk d + 1
 end
def uptoSmall : (H : Type) → List (DataW H) → Bool := fun _ ds => decide (uptoBulkAll ds ≤ 1048576)
def OpenSpec.upto (s : _root_.Go.ChangeSpec) : _root_.Go.OpenSpec := { _root_.Go.OpenSpec.ofChange s with cond := some uptoSmall }

/-- 'outcroplaw07.CodecEncodes', WHERE WHAT IT READS IS OF BULK AT MOST 1048576: true; the input reads as it did. -/
def codecEncodesUptoRow : OpenClaim := { program := "ytpakcmcoafbgkaa", sum := "8eee2d332eb47dbffeb202b3347a8e95b77197af15c874259c69eeabe50f9f00", func := "outcrop/outcroplaw07.CodecEncodes", spec := "codecEncodes", unfollowed := true, recurses := true, apart := false, narrowed := true }
def CodecEncodesUptoSaid : Prop := codecEncodesUptoRow.holds Try.pinned (OpenSpec.upto codecEncodesSpec)

/-- 'outcroplaw07.CodecBack', WHERE WHAT IT READS IS OF BULK AT MOST 1048576: true; the input reads as it did. -/
def codecBackUptoRow : OpenClaim := { program := "ytpakcmcoafbgkaa", sum := "8eee2d332eb47dbffeb202b3347a8e95b77197af15c874259c69eeabe50f9f00", func := "outcrop/outcroplaw07.CodecBack", spec := "codecBack", unfollowed := true, recurses := true, apart := false, narrowed := true }
def CodecBackUptoSaid : Prop := codecBackUptoRow.holds Try.pinned (OpenSpec.upto codecBackSpec)

/-- 'outcroplaw07.CodecDecodes', WHERE WHAT IT READS IS OF BULK AT MOST 1048576: true; the input reads as it did. -/
def codecDecodesUptoRow : OpenClaim := { program := "ytpakcmcoafbgkaa", sum := "8eee2d332eb47dbffeb202b3347a8e95b77197af15c874259c69eeabe50f9f00", func := "outcrop/outcroplaw07.CodecDecodes", spec := "codecDecodes", unfollowed := true, recurses := true, apart := false, narrowed := true }
def CodecDecodesUptoSaid : Prop := codecDecodesUptoRow.holds Try.pinned (OpenSpec.upto codecDecodesSpec)

/-- 'outcroplaw07.CodecSpoils', WHERE WHAT IT READS IS OF BULK AT MOST 1048576: true; the input reads as it did. -/
def codecSpoilsUptoRow : OpenClaim := { program := "ytpakcmcoafbgkaa", sum := "8eee2d332eb47dbffeb202b3347a8e95b77197af15c874259c69eeabe50f9f00", func := "outcrop/outcroplaw07.CodecSpoils", spec := "codecSpoils", unfollowed := true, recurses := true, apart := false, narrowed := true }
def CodecSpoilsUptoSaid : Prop := codecSpoilsUptoRow.holds Try.pinned (OpenSpec.upto codecSpoilsSpec)

/-- 'outcroplaw07.CodecPalettes', WHERE WHAT IT READS IS OF BULK AT MOST 1048576: true; the input reads as it did. -/
def codecPalettesUptoRow : OpenClaim := { program := "ytpakcmcoafbgkaa", sum := "8eee2d332eb47dbffeb202b3347a8e95b77197af15c874259c69eeabe50f9f00", func := "outcrop/outcroplaw07.CodecPalettes", spec := "codecPalettes", unfollowed := true, recurses := true, apart := false, narrowed := true }
def CodecPalettesUptoSaid : Prop := codecPalettesUptoRow.holds Try.pinned (OpenSpec.upto codecPalettesSpec)

/-- 'outcroplaw07.CodecAgain', WHERE WHAT IT READS IS OF BULK AT MOST 1048576: true; the input reads as it did. -/
def codecAgainUptoRow : OpenClaim := { program := "ytpakcmcoafbgkaa", sum := "8eee2d332eb47dbffeb202b3347a8e95b77197af15c874259c69eeabe50f9f00", func := "outcrop/outcroplaw07.CodecAgain", spec := "codecAgain", unfollowed := true, recurses := true, apart := false, narrowed := true }
def CodecAgainUptoSaid : Prop := codecAgainUptoRow.holds Try.pinned (OpenSpec.upto codecAgainSpec)

end Rows
end Go.Proofs.Ytpakcmcoafbgkaa
