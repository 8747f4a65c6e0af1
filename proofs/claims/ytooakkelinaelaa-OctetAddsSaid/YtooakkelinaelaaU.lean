/- Small words for the proofs' frames. -/
import Derived.ProofKit
namespace Go.Proofs.Ytooakkelinaelaa
/-- a number of 64 bits that has come in -/
theorem u64_nat {n : Int} (h : (Lit.int .u64 n).wf = true) : ∃ k : Nat, n = (k : Int) ∧ k < 18446744073709551616 := by
  simp [Lit.wf, IntKind.min, IntKind.max, IntKind.bits, IntKind.signed] at h
  exact ⟨n.toNat, by omega, by omega⟩
end Go.Proofs.Ytooakkelinaelaa
