/-
  No cell of these rows narrows 'for every input' (looked for: loops, veiled, ifaces, maps, wideKeys, modest, calm, conditions, laid).
  DERIVED. THE GIVEN ROWS OF THIS SEAT. 4 by the template 'for every input the law returns true; each argument reads behind the call as it read before'; 0 by the template 'total and deterministic' (their statements: YtgpjpdeiogopfaaTotals.lean).
  GIVEN WITH THE SEED: the statements are not yours to turn. If you find one false, say at which input.
  Laid BY PROGRAM, IN A SANDBOX (cutbox-rows.mjs): the forced cells as the released guide's own fill.sh prints them over the translation bbee516a765425fb… (all of the seat's roots in one cut). By AI agents, Wed Nov 11 2026. No macro, syntax, notation, axiom, sorry.
-/
import Derived.Test.YtgpjpdeiogopfaaChecked
import GoSem.Claim
import GoSem.ClaimJoined
import GoSem.ClaimMapViews
import Derived.JoinedTies
import Derived.KernelRfl
namespace Go.Proofs.Ytgpjpdeiogopfaa
/- THE CELL 'sum', in the pinned program and in every row, IS THE sha256 OF THE DUMP (.gsa) THAT YtgpjpdeiogopfaaProg.lean LOADS. Nothing in Lean hashes anything: it is a label: what it is worth is what the hold of that sum in a sandbox is worth. -/
noncomputable def Try.pinned : Pinned := { name := "ytgpjpdeiogopfaa", sum := "bbee516a765425fb2d8ca927e53fd16369143e5c736c83676ea1e3381eb3d3ff", checked := Try.checked }
namespace Rows
def none {H : Type} : Left H := { results := [], args := [] }

/-- 'pyxislaw14.BaseEncodes': WHATEVER THE INPUT: true; the input reads as it did. -/
def baseEncodesSpec : ChangeSpec := { name := "baseEncodes", fn := fun _ => fun
  | [d] => { results := [.lit (.bool true)], args := [d] }
  | _ => none }
def baseEncodesRow : OpenClaim := { program := "ytgpjpdeiogopfaa", sum := "bbee516a765425fb2d8ca927e53fd16369143e5c736c83676ea1e3381eb3d3ff", func := "pyxis/pyxislaw14.BaseEncodes", spec := "baseEncodes", inPlace := ["internal/bytealg.IndexByteString", "internal/abi.NoEscape"], apart := false }
def BaseEncodesSaid : Prop := baseEncodesRow.holds Try.pinned (OpenSpec.ofChange baseEncodesSpec)

/-- ITS FALSE NEIGHBOUR: 'it returns false'. Refute it at one input. -/
def baseEncodesWrong : ChangeSpec := { name := "baseEncodes", fn := fun _ => fun
  | [d] => { results := [.lit (.bool false)], args := [d] }
  | _ => none }
def BaseEncodesWrongFalsely : Prop := baseEncodesRow.holds Try.pinned (OpenSpec.ofChange baseEncodesWrong)

/-- 'pyxislaw14.BaseDecodes': WHATEVER THE INPUT: true; the input reads as it did. -/
def baseDecodesSpec : ChangeSpec := { name := "baseDecodes", fn := fun _ => fun
  | [d] => { results := [.lit (.bool true)], args := [d] }
  | _ => none }
def baseDecodesRow : OpenClaim := { program := "ytgpjpdeiogopfaa", sum := "bbee516a765425fb2d8ca927e53fd16369143e5c736c83676ea1e3381eb3d3ff", func := "pyxis/pyxislaw14.BaseDecodes", spec := "baseDecodes", inPlace := ["internal/bytealg.IndexByteString", "internal/abi.NoEscape"], apart := false }
def BaseDecodesSaid : Prop := baseDecodesRow.holds Try.pinned (OpenSpec.ofChange baseDecodesSpec)

/-- ITS FALSE NEIGHBOUR: 'it returns false'. Refute it at one input. -/
def baseDecodesWrong : ChangeSpec := { name := "baseDecodes", fn := fun _ => fun
  | [d] => { results := [.lit (.bool false)], args := [d] }
  | _ => none }
def BaseDecodesWrongFalsely : Prop := baseDecodesRow.holds Try.pinned (OpenSpec.ofChange baseDecodesWrong)

/-- 'pyxislaw14.BaseOneWay': WHATEVER THE INPUT: true; the input reads as it did. -/
def baseOneWaySpec : ChangeSpec := { name := "baseOneWay", fn := fun _ => fun
  | [d] => { results := [.lit (.bool true)], args := [d] }
  | _ => none }
def baseOneWayRow : OpenClaim := { program := "ytgpjpdeiogopfaa", sum := "bbee516a765425fb2d8ca927e53fd16369143e5c736c83676ea1e3381eb3d3ff", func := "pyxis/pyxislaw14.BaseOneWay", spec := "baseOneWay", inPlace := ["internal/bytealg.IndexByteString", "internal/abi.NoEscape"], apart := false }
def BaseOneWaySaid : Prop := baseOneWayRow.holds Try.pinned (OpenSpec.ofChange baseOneWaySpec)

/-- ITS FALSE NEIGHBOUR: 'it returns false'. Refute it at one input. -/
def baseOneWayWrong : ChangeSpec := { name := "baseOneWay", fn := fun _ => fun
  | [d] => { results := [.lit (.bool false)], args := [d] }
  | _ => none }
def BaseOneWayWrongFalsely : Prop := baseOneWayRow.holds Try.pinned (OpenSpec.ofChange baseOneWayWrong)

/-- 'pyxislaw14.BaseApart': WHATEVER THE INPUT: true; the input reads as it did. -/
def baseApartSpec : ChangeSpec := { name := "baseApart", fn := fun _ => fun
  | [d1, d2] => { results := [.lit (.bool true)], args := [d1, d2] }
  | _ => none }
def baseApartRow : OpenClaim := { program := "ytgpjpdeiogopfaa", sum := "bbee516a765425fb2d8ca927e53fd16369143e5c736c83676ea1e3381eb3d3ff", func := "pyxis/pyxislaw14.BaseApart", spec := "baseApart", inPlace := ["internal/bytealg.IndexByteString", "internal/abi.NoEscape"], apart := false }
def BaseApartSaid : Prop := baseApartRow.holds Try.pinned (OpenSpec.ofChange baseApartSpec)

/-- ITS FALSE NEIGHBOUR: 'it returns false'. Refute it at one input. -/
def baseApartWrong : ChangeSpec := { name := "baseApart", fn := fun _ => fun
  | [d1, d2] => { results := [.lit (.bool false)], args := [d1, d2] }
  | _ => none }
def BaseApartWrongFalsely : Prop := baseApartRow.holds Try.pinned (OpenSpec.ofChange baseApartWrong)

/- THE SECOND FORM. 'bulk': how many values and letters a reading holds, each counted each time it is reached (what is shared counts as often as it is met; a slice's spare places count too). A statement '..UptoSaid' is the law's where the arguments, and the package variables that the reading takes, are together of bulk at most 1048576: NARROWER than '..Said'. Prove '..Said' where nothing that the law and all that it calls make is longer than what came in: it says more and counts as full. Else prove '..UptoSaid'. A law counts once. -/
mutual
def uptoBulk {H : Type} : DataW H → Nat
  | .lit (.string bytes) => bytes.length + 1
  | .lit _ => 1
  | .nil => 1
  | .ptr d => uptoBulk d + 1
  | .slice elems spare => uptoBulkAll elems + uptoBulkAll spare + 1
  | .agg parts => uptoBulkAll parts + 1
  | .iface _ d => uptoBulk d + 1
  | .map entries => uptoBulkEntries entries + 1
  | .held _ => 1
def uptoBulkAll {H : Type} : List (DataW H) → Nat
  | [] => 0
  | d :: r => uptoBulk d + uptoBulkAll r
def uptoBulkEntries {H : Type} : List (Lit × DataW H) → Nat
  | [] => 0
  | x :: r => uptoBulkEntry x + uptoBulkEntries r
def uptoBulkEntry {H : Type} : Lit × DataW H → Nat
  | (.string bytes, d) => bytes.length + uptoBulk d + 1
  | (_, d) => uptoBulk d + 1
 end
def uptoSmall : (H : Type) → List (DataW H) → Bool := fun _ ds => decide (uptoBulkAll ds ≤ 1048576)
def OpenSpec.upto (s : _root_.Go.ChangeSpec) : _root_.Go.OpenSpec := { _root_.Go.OpenSpec.ofChange s with cond := some uptoSmall }

/-- 'pyxislaw14.BaseEncodes', WHERE WHAT IT READS IS OF BULK AT MOST 1048576: true; the input reads as it did. -/
def baseEncodesUptoRow : OpenClaim := { program := "ytgpjpdeiogopfaa", sum := "bbee516a765425fb2d8ca927e53fd16369143e5c736c83676ea1e3381eb3d3ff", func := "pyxis/pyxislaw14.BaseEncodes", spec := "baseEncodes", inPlace := ["internal/bytealg.IndexByteString", "internal/abi.NoEscape"], apart := false, narrowed := true }
def BaseEncodesUptoSaid : Prop := baseEncodesUptoRow.holds Try.pinned (OpenSpec.upto baseEncodesSpec)

/-- 'pyxislaw14.BaseDecodes', WHERE WHAT IT READS IS OF BULK AT MOST 1048576: true; the input reads as it did. -/
def baseDecodesUptoRow : OpenClaim := { program := "ytgpjpdeiogopfaa", sum := "bbee516a765425fb2d8ca927e53fd16369143e5c736c83676ea1e3381eb3d3ff", func := "pyxis/pyxislaw14.BaseDecodes", spec := "baseDecodes", inPlace := ["internal/bytealg.IndexByteString", "internal/abi.NoEscape"], apart := false, narrowed := true }
def BaseDecodesUptoSaid : Prop := baseDecodesUptoRow.holds Try.pinned (OpenSpec.upto baseDecodesSpec)

/-- 'pyxislaw14.BaseOneWay', WHERE WHAT IT READS IS OF BULK AT MOST 1048576: true; the input reads as it did. -/
def baseOneWayUptoRow : OpenClaim := { program := "ytgpjpdeiogopfaa", sum := "bbee516a765425fb2d8ca927e53fd16369143e5c736c83676ea1e3381eb3d3ff", func := "pyxis/pyxislaw14.BaseOneWay", spec := "baseOneWay", inPlace := ["internal/bytealg.IndexByteString", "internal/abi.NoEscape"], apart := false, narrowed := true }
def BaseOneWayUptoSaid : Prop := baseOneWayUptoRow.holds Try.pinned (OpenSpec.upto baseOneWaySpec)

/-- 'pyxislaw14.BaseApart', WHERE WHAT IT READS IS OF BULK AT MOST 1048576: true; the input reads as it did. -/
def baseApartUptoRow : OpenClaim := { program := "ytgpjpdeiogopfaa", sum := "bbee516a765425fb2d8ca927e53fd16369143e5c736c83676ea1e3381eb3d3ff", func := "pyxis/pyxislaw14.BaseApart", spec := "baseApart", inPlace := ["internal/bytealg.IndexByteString", "internal/abi.NoEscape"], apart := false, narrowed := true }
def BaseApartUptoSaid : Prop := baseApartUptoRow.holds Try.pinned (OpenSpec.upto baseApartSpec)

end Rows
end Go.Proofs.Ytgpjpdeiogopfaa
