/-
  No cell of these rows narrows 'for every input' (looked for: loops, veiled, ifaces, maps, wideKeys, modest, calm, conditions, laid).
  DERIVED. THE GIVEN ROWS OF THIS SEAT. 6 by the template 'for every input the law returns true; each argument reads behind the call as it read before'; 0 by the template 'total and deterministic' (their statements: YtooakkelinaelaaTotals.lean).
  GIVEN WITH THE SEED: the statements are not yours to turn. If you find one false, say at which input.
  Laid BY PROGRAM, IN A SANDBOX (cutbox-rows.mjs): the forced cells as the released guide's own fill.sh prints them over the translation b4cfe06cf872fe20… (all of the seat's roots in one cut). By AI agents, Wed Nov 11 2026. No macro, syntax, notation, axiom, sorry.
-/
import Derived.Test.YtooakkelinaelaaChecked
import GoSem.Claim
import GoSem.ClaimJoined
import GoSem.ClaimMapViews
import Derived.JoinedTies
import Derived.KernelRfl
namespace Go.Proofs.Ytooakkelinaelaa
/- THE CELL 'sum', in the pinned program and in every row, IS THE sha256 OF THE DUMP (.gsa) THAT YtooakkelinaelaaProg.lean LOADS. Nothing in Lean hashes anything: it is a label: what it is worth is what the hold of that sum in a sandbox is worth. -/
noncomputable def Try.pinned : Pinned := { name := "ytooakkelinaelaa", sum := "b4cfe06cf872fe20ec0c9f11b70940c845b3648fe193195161518dec2fcc6ea1", checked := Try.checked }
namespace Rows
def none {H : Type} : Left H := { results := [], args := [] }

/-- 'pyxislaw01.OctetXors': WHATEVER THE INPUT: true; the input reads as it did. -/
def octetXorsSpec : ChangeSpec := { name := "octetXors", fn := fun _ => fun
  | [d1, d2] => { results := [.lit (.bool true)], args := [d1, d2] }
  | _ => none }
def octetXorsRow : OpenClaim := { program := "ytooakkelinaelaa", sum := "b4cfe06cf872fe20ec0c9f11b70940c845b3648fe193195161518dec2fcc6ea1", func := "pyxis/pyxislaw01.OctetXors", spec := "octetXors", inPlace := ["internal/abi.NoEscape"], apart := false }
def OctetXorsSaid : Prop := octetXorsRow.holds Try.pinned (OpenSpec.ofChange octetXorsSpec)

/-- ITS FALSE NEIGHBOUR: 'it returns false'. Refute it at one input. -/
def octetXorsWrong : ChangeSpec := { name := "octetXors", fn := fun _ => fun
  | [d1, d2] => { results := [.lit (.bool false)], args := [d1, d2] }
  | _ => none }
def OctetXorsWrongFalsely : Prop := octetXorsRow.holds Try.pinned (OpenSpec.ofChange octetXorsWrong)

/-- 'pyxislaw01.OctetAdds': WHATEVER THE INPUT: true; the input reads as it did. -/
def octetAddsSpec : ChangeSpec := { name := "octetAdds", fn := fun _ => fun
  | [d1, d2, d3] => { results := [.lit (.bool true)], args := [d1, d2, d3] }
  | _ => none }
def octetAddsRow : OpenClaim := { program := "ytooakkelinaelaa", sum := "b4cfe06cf872fe20ec0c9f11b70940c845b3648fe193195161518dec2fcc6ea1", func := "pyxis/pyxislaw01.OctetAdds", spec := "octetAdds", inPlace := ["internal/abi.NoEscape"], apart := false }
def OctetAddsSaid : Prop := octetAddsRow.holds Try.pinned (OpenSpec.ofChange octetAddsSpec)

/-- ITS FALSE NEIGHBOUR: 'it returns false'. Refute it at one input. -/
def octetAddsWrong : ChangeSpec := { name := "octetAdds", fn := fun _ => fun
  | [d1, d2, d3] => { results := [.lit (.bool false)], args := [d1, d2, d3] }
  | _ => none }
def OctetAddsWrongFalsely : Prop := octetAddsRow.holds Try.pinned (OpenSpec.ofChange octetAddsWrong)

/-- 'pyxislaw01.OctetSame': WHATEVER THE INPUT: true; the input reads as it did. -/
def octetSameSpec : ChangeSpec := { name := "octetSame", fn := fun _ => fun
  | [d1, d2] => { results := [.lit (.bool true)], args := [d1, d2] }
  | _ => none }
def octetSameRow : OpenClaim := { program := "ytooakkelinaelaa", sum := "b4cfe06cf872fe20ec0c9f11b70940c845b3648fe193195161518dec2fcc6ea1", func := "pyxis/pyxislaw01.OctetSame", spec := "octetSame", inPlace := ["internal/abi.NoEscape"], apart := false }
def OctetSameSaid : Prop := octetSameRow.holds Try.pinned (OpenSpec.ofChange octetSameSpec)

/-- ITS FALSE NEIGHBOUR: 'it returns false'. Refute it at one input. -/
def octetSameWrong : ChangeSpec := { name := "octetSame", fn := fun _ => fun
  | [d1, d2] => { results := [.lit (.bool false)], args := [d1, d2] }
  | _ => none }
def OctetSameWrongFalsely : Prop := octetSameRow.holds Try.pinned (OpenSpec.ofChange octetSameWrong)

/-- 'pyxislaw01.OctetPuts': WHATEVER THE INPUT: true; the input reads as it did. -/
def octetPutsSpec : ChangeSpec := { name := "octetPuts", fn := fun _ => fun
  | [d1, d2] => { results := [.lit (.bool true)], args := [d1, d2] }
  | _ => none }
def octetPutsRow : OpenClaim := { program := "ytooakkelinaelaa", sum := "b4cfe06cf872fe20ec0c9f11b70940c845b3648fe193195161518dec2fcc6ea1", func := "pyxis/pyxislaw01.OctetPuts", spec := "octetPuts", inPlace := ["internal/abi.NoEscape"], apart := false }
def OctetPutsSaid : Prop := octetPutsRow.holds Try.pinned (OpenSpec.ofChange octetPutsSpec)

/-- ITS FALSE NEIGHBOUR: 'it returns false'. Refute it at one input. -/
def octetPutsWrong : ChangeSpec := { name := "octetPuts", fn := fun _ => fun
  | [d1, d2] => { results := [.lit (.bool false)], args := [d1, d2] }
  | _ => none }
def OctetPutsWrongFalsely : Prop := octetPutsRow.holds Try.pinned (OpenSpec.ofChange octetPutsWrong)

/-- 'pyxislaw01.OctetGets': WHATEVER THE INPUT: true; the input reads as it did. -/
def octetGetsSpec : ChangeSpec := { name := "octetGets", fn := fun _ => fun
  | [d] => { results := [.lit (.bool true)], args := [d] }
  | _ => none }
def octetGetsRow : OpenClaim := { program := "ytooakkelinaelaa", sum := "b4cfe06cf872fe20ec0c9f11b70940c845b3648fe193195161518dec2fcc6ea1", func := "pyxis/pyxislaw01.OctetGets", spec := "octetGets", inPlace := ["internal/abi.NoEscape"], apart := false }
def OctetGetsSaid : Prop := octetGetsRow.holds Try.pinned (OpenSpec.ofChange octetGetsSpec)

/-- ITS FALSE NEIGHBOUR: 'it returns false'. Refute it at one input. -/
def octetGetsWrong : ChangeSpec := { name := "octetGets", fn := fun _ => fun
  | [d] => { results := [.lit (.bool false)], args := [d] }
  | _ => none }
def OctetGetsWrongFalsely : Prop := octetGetsRow.holds Try.pinned (OpenSpec.ofChange octetGetsWrong)

/-- 'pyxislaw01.OctetHexes': WHATEVER THE INPUT: true; the input reads as it did. -/
def octetHexesSpec : ChangeSpec := { name := "octetHexes", fn := fun _ => fun
  | [d] => { results := [.lit (.bool true)], args := [d] }
  | _ => none }
def octetHexesRow : OpenClaim := { program := "ytooakkelinaelaa", sum := "b4cfe06cf872fe20ec0c9f11b70940c845b3648fe193195161518dec2fcc6ea1", func := "pyxis/pyxislaw01.OctetHexes", spec := "octetHexes", inPlace := ["internal/abi.NoEscape", "internal/bytealg.IndexByteString"], apart := false }
def OctetHexesSaid : Prop := octetHexesRow.holds Try.pinned (OpenSpec.ofChange octetHexesSpec)

/-- ITS FALSE NEIGHBOUR: 'it returns false'. Refute it at one input. -/
def octetHexesWrong : ChangeSpec := { name := "octetHexes", fn := fun _ => fun
  | [d] => { results := [.lit (.bool false)], args := [d] }
  | _ => none }
def OctetHexesWrongFalsely : Prop := octetHexesRow.holds Try.pinned (OpenSpec.ofChange octetHexesWrong)

/- THE SECOND FORM. 'bulk': how many values and letters a reading holds, each counted each time it is reached (what is shared counts as often as it is met; a slice's spare places count too). A statement '..UptoSaid' is the law's where the arguments, and the package variables that the reading takes, are together of bulk at most 1048576: NARROWER than '..Said'. Prove '..Said' where nothing that the law and all that it calls make is longer than what came in: it says more and counts as full. Else prove '..UptoSaid'. A law counts once. -/
mutual
def uptoBulk {H : Type} : DataW H → Nat
  | .lit (.string bytes) => bytes.length + 1
  | .lit _ => 1
  | .nil => 1
  | .ptr d => uptoBulk d + 1
  | .slice elems spare => uptoBulkAll elems + uptoBulkAll spare + 1
  | .agg parts => uptoBulkAll parts + 1
  | .iface _ d => uptoBulk d + 1
  | .map entries => uptoBulkEntries entries + 1
  | .held _ => 1
def uptoBulkAll {H : Type} : List (DataW H) → Nat
  | [] => 0
  | d :: r => uptoBulk d + uptoBulkAll r
def uptoBulkEntries {H : Type} : List (Lit × DataW H) → Nat
  | [] => 0
  | x :: r => uptoBulkEntry x + uptoBulkEntries r
def uptoBulkEntry {H : Type} : Lit × DataW H → Nat
  | (.string bytes, d) => bytes.length + uptoBulk d + 1
  | (_, d) => uptoBulk d + 1
 end
def uptoSmall : (H : Type) → List (DataW H) → Bool := fun _ ds => decide (uptoBulkAll ds ≤ 1048576)
def OpenSpec.upto (s : _root_.Go.ChangeSpec) : _root_.Go.OpenSpec := { _root_.Go.OpenSpec.ofChange s with cond := some uptoSmall }

/-- 'pyxislaw01.OctetXors', WHERE WHAT IT READS IS OF BULK AT MOST 1048576: true; the input reads as it did. -/
def octetXorsUptoRow : OpenClaim := { program := "ytooakkelinaelaa", sum := "b4cfe06cf872fe20ec0c9f11b70940c845b3648fe193195161518dec2fcc6ea1", func := "pyxis/pyxislaw01.OctetXors", spec := "octetXors", inPlace := ["internal/abi.NoEscape"], apart := false, narrowed := true }
def OctetXorsUptoSaid : Prop := octetXorsUptoRow.holds Try.pinned (OpenSpec.upto octetXorsSpec)

/-- 'pyxislaw01.OctetAdds', WHERE WHAT IT READS IS OF BULK AT MOST 1048576: true; the input reads as it did. -/
def octetAddsUptoRow : OpenClaim := { program := "ytooakkelinaelaa", sum := "b4cfe06cf872fe20ec0c9f11b70940c845b3648fe193195161518dec2fcc6ea1", func := "pyxis/pyxislaw01.OctetAdds", spec := "octetAdds", inPlace := ["internal/abi.NoEscape"], apart := false, narrowed := true }
def OctetAddsUptoSaid : Prop := octetAddsUptoRow.holds Try.pinned (OpenSpec.upto octetAddsSpec)

/-- 'pyxislaw01.OctetSame', WHERE WHAT IT READS IS OF BULK AT MOST 1048576: true; the input reads as it did. -/
def octetSameUptoRow : OpenClaim := { program := "ytooakkelinaelaa", sum := "b4cfe06cf872fe20ec0c9f11b70940c845b3648fe193195161518dec2fcc6ea1", func := "pyxis/pyxislaw01.OctetSame", spec := "octetSame", inPlace := ["internal/abi.NoEscape"], apart := false, narrowed := true }
def OctetSameUptoSaid : Prop := octetSameUptoRow.holds Try.pinned (OpenSpec.upto octetSameSpec)

/-- 'pyxislaw01.OctetPuts', WHERE WHAT IT READS IS OF BULK AT MOST 1048576: true; the input reads as it did. -/
def octetPutsUptoRow : OpenClaim := { program := "ytooakkelinaelaa", sum := "b4cfe06cf872fe20ec0c9f11b70940c845b3648fe193195161518dec2fcc6ea1", func := "pyxis/pyxislaw01.OctetPuts", spec := "octetPuts", inPlace := ["internal/abi.NoEscape"], apart := false, narrowed := true }
def OctetPutsUptoSaid : Prop := octetPutsUptoRow.holds Try.pinned (OpenSpec.upto octetPutsSpec)

/-- 'pyxislaw01.OctetGets', WHERE WHAT IT READS IS OF BULK AT MOST 1048576: true; the input reads as it did. -/
def octetGetsUptoRow : OpenClaim := { program := "ytooakkelinaelaa", sum := "b4cfe06cf872fe20ec0c9f11b70940c845b3648fe193195161518dec2fcc6ea1", func := "pyxis/pyxislaw01.OctetGets", spec := "octetGets", inPlace := ["internal/abi.NoEscape"], apart := false, narrowed := true }
def OctetGetsUptoSaid : Prop := octetGetsUptoRow.holds Try.pinned (OpenSpec.upto octetGetsSpec)

/-- 'pyxislaw01.OctetHexes', WHERE WHAT IT READS IS OF BULK AT MOST 1048576: true; the input reads as it did. -/
def octetHexesUptoRow : OpenClaim := { program := "ytooakkelinaelaa", sum := "b4cfe06cf872fe20ec0c9f11b70940c845b3648fe193195161518dec2fcc6ea1", func := "pyxis/pyxislaw01.OctetHexes", spec := "octetHexes", inPlace := ["internal/abi.NoEscape", "internal/bytealg.IndexByteString"], apart := false, narrowed := true }
def OctetHexesUptoSaid : Prop := octetHexesUptoRow.holds Try.pinned (OpenSpec.upto octetHexesSpec)

end Rows
end Go.Proofs.Ytooakkelinaelaa
