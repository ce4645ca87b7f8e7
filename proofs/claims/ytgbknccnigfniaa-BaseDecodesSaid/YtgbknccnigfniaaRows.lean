/-
  No cell of these rows narrows 'for every input' (looked for: loops, veiled, ifaces, maps, wideKeys, modest, calm, conditions, laid).
  DERIVED. THE GIVEN ROWS OF THIS SEAT. 6 by the template 'for every input the law returns true; each argument reads behind the call as it read before'; 0 by the template 'total and deterministic' (their statements: YtgbknccnigfniaaTotals.lean).
  GIVEN WITH THE SEED: the statements are not yours to turn. If you find one false, say at which input.
  Laid BY PROGRAM, IN A SANDBOX (cutbox-rows.mjs): the forced cells as the released guide's own fill.sh prints them over the translation 2dceac2d119cd5fc… (all of the seat's roots in one cut). By AI agents, Wed Nov 11 2026. No macro, syntax, notation, axiom, sorry.
-/
import Derived.Test.YtgbknccnigfniaaChecked
import GoSem.Claim
import GoSem.ClaimJoined
import GoSem.ClaimMapViews
import Derived.JoinedTies
import Derived.KernelRfl
namespace Go.Proofs.Ytgbknccnigfniaa
/- THE CELL 'sum', in the pinned program and in every row, IS THE sha256 OF THE DUMP (.gsa) THAT YtgbknccnigfniaaProg.lean LOADS. Nothing in Lean hashes anything: it is a label: what it is worth is what the hold of that sum in a sandbox is worth. -/
noncomputable def Try.pinned : Pinned := { name := "ytgbknccnigfniaa", sum := "2dceac2d119cd5fce1001c19d0947772a8d56bad3482042c48404a2ce676df75", checked := Try.checked }
namespace Rows
def none {H : Type} : Left H := { results := [], args := [] }

/-- 'staddlelaw02.BaseLens': WHATEVER THE INPUT: true; the input reads as it did. -/
def baseLensSpec : ChangeSpec := { name := "baseLens", fn := fun _ => fun
  | [d] => { results := [.lit (.bool true)], args := [d] }
  | _ => none }
def baseLensRow : OpenClaim := { program := "ytgbknccnigfniaa", sum := "2dceac2d119cd5fce1001c19d0947772a8d56bad3482042c48404a2ce676df75", func := "staddle/staddlelaw02.BaseLens", spec := "baseLens", inPlace := ["internal/abi.NoEscape"], apart := false }
def BaseLensSaid : Prop := baseLensRow.holds Try.pinned (OpenSpec.ofChange baseLensSpec)

/-- ITS FALSE NEIGHBOUR: 'it returns false'. Refute it at one input. -/
def baseLensWrong : ChangeSpec := { name := "baseLens", fn := fun _ => fun
  | [d] => { results := [.lit (.bool false)], args := [d] }
  | _ => none }
def BaseLensWrongFalsely : Prop := baseLensRow.holds Try.pinned (OpenSpec.ofChange baseLensWrong)

/-- 'staddlelaw02.BaseOrder': WHATEVER THE INPUT: true; the input reads as it did. -/
def baseOrderSpec : ChangeSpec := { name := "baseOrder", fn := fun _ => fun
  | [d1, d2] => { results := [.lit (.bool true)], args := [d1, d2] }
  | _ => none }
def baseOrderRow : OpenClaim := { program := "ytgbknccnigfniaa", sum := "2dceac2d119cd5fce1001c19d0947772a8d56bad3482042c48404a2ce676df75", func := "staddle/staddlelaw02.BaseOrder", spec := "baseOrder", inPlace := ["internal/abi.NoEscape"], apart := false }
def BaseOrderSaid : Prop := baseOrderRow.holds Try.pinned (OpenSpec.ofChange baseOrderSpec)

/-- ITS FALSE NEIGHBOUR: 'it returns false'. Refute it at one input. -/
def baseOrderWrong : ChangeSpec := { name := "baseOrder", fn := fun _ => fun
  | [d1, d2] => { results := [.lit (.bool false)], args := [d1, d2] }
  | _ => none }
def BaseOrderWrongFalsely : Prop := baseOrderRow.holds Try.pinned (OpenSpec.ofChange baseOrderWrong)

/-- 'staddlelaw02.BaseParts': WHATEVER THE INPUT: true; the input reads as it did. -/
def basePartsSpec : ChangeSpec := { name := "baseParts", fn := fun _ => fun
  | [d1, d2] => { results := [.lit (.bool true)], args := [d1, d2] }
  | _ => none }
def basePartsRow : OpenClaim := { program := "ytgbknccnigfniaa", sum := "2dceac2d119cd5fce1001c19d0947772a8d56bad3482042c48404a2ce676df75", func := "staddle/staddlelaw02.BaseParts", spec := "baseParts", inPlace := ["internal/abi.NoEscape"], apart := false }
def BasePartsSaid : Prop := basePartsRow.holds Try.pinned (OpenSpec.ofChange basePartsSpec)

/-- ITS FALSE NEIGHBOUR: 'it returns false'. Refute it at one input. -/
def basePartsWrong : ChangeSpec := { name := "baseParts", fn := fun _ => fun
  | [d1, d2] => { results := [.lit (.bool false)], args := [d1, d2] }
  | _ => none }
def BasePartsWrongFalsely : Prop := basePartsRow.holds Try.pinned (OpenSpec.ofChange basePartsWrong)

/-- 'staddlelaw02.BaseHex': WHATEVER THE INPUT: true; the input reads as it did. -/
def baseHexSpec : ChangeSpec := { name := "baseHex", fn := fun _ => fun
  | [d1, d2] => { results := [.lit (.bool true)], args := [d1, d2] }
  | _ => none }
def baseHexRow : OpenClaim := { program := "ytgbknccnigfniaa", sum := "2dceac2d119cd5fce1001c19d0947772a8d56bad3482042c48404a2ce676df75", func := "staddle/staddlelaw02.BaseHex", spec := "baseHex", inPlace := ["internal/abi.NoEscape"], apart := false }
def BaseHexSaid : Prop := baseHexRow.holds Try.pinned (OpenSpec.ofChange baseHexSpec)

/-- ITS FALSE NEIGHBOUR: 'it returns false'. Refute it at one input. -/
def baseHexWrong : ChangeSpec := { name := "baseHex", fn := fun _ => fun
  | [d1, d2] => { results := [.lit (.bool false)], args := [d1, d2] }
  | _ => none }
def BaseHexWrongFalsely : Prop := baseHexRow.holds Try.pinned (OpenSpec.ofChange baseHexWrong)

/-- 'staddlelaw02.BaseEncodes': WHATEVER THE INPUT: true; the input reads as it did. -/
def baseEncodesSpec : ChangeSpec := { name := "baseEncodes", fn := fun _ => fun
  | [d] => { results := [.lit (.bool true)], args := [d] }
  | _ => none }
def baseEncodesRow : OpenClaim := { program := "ytgbknccnigfniaa", sum := "2dceac2d119cd5fce1001c19d0947772a8d56bad3482042c48404a2ce676df75", func := "staddle/staddlelaw02.BaseEncodes", spec := "baseEncodes", inPlace := ["internal/abi.NoEscape", "internal/bytealg.IndexByteString"], apart := false }
def BaseEncodesSaid : Prop := baseEncodesRow.holds Try.pinned (OpenSpec.ofChange baseEncodesSpec)

/-- ITS FALSE NEIGHBOUR: 'it returns false'. Refute it at one input. -/
def baseEncodesWrong : ChangeSpec := { name := "baseEncodes", fn := fun _ => fun
  | [d] => { results := [.lit (.bool false)], args := [d] }
  | _ => none }
def BaseEncodesWrongFalsely : Prop := baseEncodesRow.holds Try.pinned (OpenSpec.ofChange baseEncodesWrong)

/-- 'staddlelaw02.BaseDecodes': WHATEVER THE INPUT: true; the input reads as it did. -/
def baseDecodesSpec : ChangeSpec := { name := "baseDecodes", fn := fun _ => fun
  | [d] => { results := [.lit (.bool true)], args := [d] }
  | _ => none }
def baseDecodesRow : OpenClaim := { program := "ytgbknccnigfniaa", sum := "2dceac2d119cd5fce1001c19d0947772a8d56bad3482042c48404a2ce676df75", func := "staddle/staddlelaw02.BaseDecodes", spec := "baseDecodes", inPlace := ["internal/abi.NoEscape", "internal/bytealg.IndexByteString"], apart := false }
def BaseDecodesSaid : Prop := baseDecodesRow.holds Try.pinned (OpenSpec.ofChange baseDecodesSpec)

/-- ITS FALSE NEIGHBOUR: 'it returns false'. Refute it at one input. -/
def baseDecodesWrong : ChangeSpec := { name := "baseDecodes", fn := fun _ => fun
  | [d] => { results := [.lit (.bool false)], args := [d] }
  | _ => none }
def BaseDecodesWrongFalsely : Prop := baseDecodesRow.holds Try.pinned (OpenSpec.ofChange baseDecodesWrong)

/- THE SECOND FORM. 'bulk': how many values and letters a reading holds, each counted each time it is reached (what is shared counts as often as it is met; a slice's spare places count too). A statement '..UptoSaid' is the law's where the arguments, and the package variables that the reading takes, are together of bulk at most 1048576: NARROWER than '..Said'. Prove '..Said' where nothing that the law and all that it calls make is longer than what came in: it says more and counts as full. Else prove '..UptoSaid'. A law counts once. -/
mutual
def uptoBulk {H : Type} : DataW H → Nat
  | .lit (.string bytes) => bytes.length + 1
  | .lit _ => 1
  | .nil => 1
  | .ptr d => uptoBulk d + 1
  | .slice elems spare => uptoBulkAll elems + uptoBulkAll spare + 1
  | .agg parts => uptoBulkAll parts + 1
  | .iface _ d => uptoBulk d + 1
  | .map entries => uptoBulkEntries entries + 1
  | .held _ => 1
def uptoBulkAll {H : Type} : List (DataW H) → Nat
  | [] => 0
  | d :: r => uptoBulk d + uptoBulkAll r
def uptoBulkEntries {H : Type} : List (Lit × DataW H) → Nat
  | [] => 0
  | x :: r => uptoBulkEntry x + uptoBulkEntries r
def uptoBulkEntry {H : Type} : Lit × DataW H → Nat
  | (.string bytes, d) => bytes.length + uptoBulk d + 1
  | (_, d) => uptoBulk d + 1
 end
def uptoSmall : (H : Type) → List (DataW H) → Bool := fun _ ds => decide (uptoBulkAll ds ≤ 1048576)
def OpenSpec.upto (s : _root_.Go.ChangeSpec) : _root_.Go.OpenSpec := { _root_.Go.OpenSpec.ofChange s with cond := some uptoSmall }

/-- 'staddlelaw02.BaseLens', WHERE WHAT IT READS IS OF BULK AT MOST 1048576: true; the input reads as it did. -/
def baseLensUptoRow : OpenClaim := { program := "ytgbknccnigfniaa", sum := "2dceac2d119cd5fce1001c19d0947772a8d56bad3482042c48404a2ce676df75", func := "staddle/staddlelaw02.BaseLens", spec := "baseLens", inPlace := ["internal/abi.NoEscape"], apart := false, narrowed := true }
def BaseLensUptoSaid : Prop := baseLensUptoRow.holds Try.pinned (OpenSpec.upto baseLensSpec)

/-- 'staddlelaw02.BaseOrder', WHERE WHAT IT READS IS OF BULK AT MOST 1048576: true; the input reads as it did. -/
def baseOrderUptoRow : OpenClaim := { program := "ytgbknccnigfniaa", sum := "2dceac2d119cd5fce1001c19d0947772a8d56bad3482042c48404a2ce676df75", func := "staddle/staddlelaw02.BaseOrder", spec := "baseOrder", inPlace := ["internal/abi.NoEscape"], apart := false, narrowed := true }
def BaseOrderUptoSaid : Prop := baseOrderUptoRow.holds Try.pinned (OpenSpec.upto baseOrderSpec)

/-- 'staddlelaw02.BaseParts', WHERE WHAT IT READS IS OF BULK AT MOST 1048576: true; the input reads as it did. -/
def basePartsUptoRow : OpenClaim := { program := "ytgbknccnigfniaa", sum := "2dceac2d119cd5fce1001c19d0947772a8d56bad3482042c48404a2ce676df75", func := "staddle/staddlelaw02.BaseParts", spec := "baseParts", inPlace := ["internal/abi.NoEscape"], apart := false, narrowed := true }
def BasePartsUptoSaid : Prop := basePartsUptoRow.holds Try.pinned (OpenSpec.upto basePartsSpec)

/-- 'staddlelaw02.BaseHex', WHERE WHAT IT READS IS OF BULK AT MOST 1048576: true; the input reads as it did. -/
def baseHexUptoRow : OpenClaim := { program := "ytgbknccnigfniaa", sum := "2dceac2d119cd5fce1001c19d0947772a8d56bad3482042c48404a2ce676df75", func := "staddle/staddlelaw02.BaseHex", spec := "baseHex", inPlace := ["internal/abi.NoEscape"], apart := false, narrowed := true }
def BaseHexUptoSaid : Prop := baseHexUptoRow.holds Try.pinned (OpenSpec.upto baseHexSpec)

/-- 'staddlelaw02.BaseEncodes', WHERE WHAT IT READS IS OF BULK AT MOST 1048576: true; the input reads as it did. -/
def baseEncodesUptoRow : OpenClaim := { program := "ytgbknccnigfniaa", sum := "2dceac2d119cd5fce1001c19d0947772a8d56bad3482042c48404a2ce676df75", func := "staddle/staddlelaw02.BaseEncodes", spec := "baseEncodes", inPlace := ["internal/abi.NoEscape", "internal/bytealg.IndexByteString"], apart := false, narrowed := true }
def BaseEncodesUptoSaid : Prop := baseEncodesUptoRow.holds Try.pinned (OpenSpec.upto baseEncodesSpec)

/-- 'staddlelaw02.BaseDecodes', WHERE WHAT IT READS IS OF BULK AT MOST 1048576: true; the input reads as it did. -/
def baseDecodesUptoRow : OpenClaim := { program := "ytgbknccnigfniaa", sum := "2dceac2d119cd5fce1001c19d0947772a8d56bad3482042c48404a2ce676df75", func := "staddle/staddlelaw02.BaseDecodes", spec := "baseDecodes", inPlace := ["internal/abi.NoEscape", "internal/bytealg.IndexByteString"], apart := false, narrowed := true }
def BaseDecodesUptoSaid : Prop := baseDecodesUptoRow.holds Try.pinned (OpenSpec.upto baseDecodesSpec)

end Rows
end Go.Proofs.Ytgbknccnigfniaa
