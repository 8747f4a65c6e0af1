/- How the arguments read: a list of entries, a list of questions. -/
import Derived.Test.YtofikcmjpecmoaaA2
import Derived.ProofKit
import Derived.OpenShut
import Derived.ShutString
import Derived.SizedLaws
import Derived.Deep.SlicePairs
namespace Go.Proofs.Ytofikcmjpecmoaa
open Go.RowKit Go.ChangeMaps Go.Maps Go.WideMaps Go.ChangeShapes Go.WideShapes Go.Deep
theorem cells37 : Try.prog.cellsOf 37 = 2 := by kernel_rfl
theorem cells42 : Try.prog.cellsOf 42 = 2 := by kernel_rfl
theorem cells9 : Try.prog.cellsOf 9 = 1 := by kernel_rfl
theorem cells3 : Try.prog.cellsOf 3 = 1 := by kernel_rfl
theorem bytes37 : Try.prog.bytesOf 37 = 32 := by kernel_rfl
def strv : Value → ByteArray
  | .string s => s
  | _ => ByteArray.empty
def intv : Value → Int
  | .int _ n => n
  | _ => 0
/-- a list of questions lies at a slice -/
def LiesQ (w : World) (v : Value) (l : List (Int × ByteArray)) : Prop := ∃ a cap, v = .slice a l.length cap ∧ ∀ i (h : i < l.length), ∃ b off, a = some ⟨b, off, none⟩ ∧ b < w.heap.size ∧
  w.cell? ⟨b, off + i * 2, none⟩ = some (.int .i64 l[i].1) ∧ w.cell? ⟨b, off + i * 2 + 1, none⟩ = some (.string l[i].2)
theorem LiesQ.grow {w w' : World} {v : Value} {l : List (Int × ByteArray)} (h : LiesQ w v l) {B : Nat} (hB : w.heap.size ≤ B) (hb : Below B w w') : LiesQ w' v l := by
  obtain ⟨a, cap, rfl, hc⟩ := h
  refine ⟨a, cap, rfl, fun i hi => ?_⟩
  obtain ⟨b, off, rfl, h1, h2, h3⟩ := hc i hi
  exact ⟨b, off, rfl, Nat.lt_of_lt_of_le h1 hb.size, (hb.cell (Nat.lt_of_lt_of_le h1 hB)).trans h2, (hb.cell (Nat.lt_of_lt_of_le h1 hB)).trans h3⟩
theorem addr_form {w : World} {a : Addr} {v : Value} (h : w.cell? (a.add (0 * 2)) = some v) : ∃ b off, a = ⟨b, off, none⟩ ∧ ∀ j, a.add j = ⟨b, off + j, none⟩ := by
  obtain ⟨b, off, sp⟩ := a
  cases sp with
  | none => exact ⟨b, off, rfl, fun j => by unfold Addr.add; split <;> simp_all⟩
  | some s =>
    exfalso
    unfold World.cell? at h
    split at h
    · simp [Addr.add] at h
    · cases h
section
variable {H : Type} {enc : TypeId × Value → H} {W : World} {d : DataW H} {p : List MemPlace} {a0 : Option Addr} {n0 c0 : Nat}
theorem open_entries (h : DataW.Trod enc Try.prog W 0 (fun _ => true) true 22 (.slice a0 n0 c0) d p) :
    ∃ l : List KV, n0 = l.length ∧ Lies W (.slice a0 n0 c0) l ∧ (∀ e ∈ l, e.1.size ≤ maxLen ∧ e.2.size ≤ maxLen) ∧ (l = [] ∨ ∃ elems spare, d = .slice elems spare ∧ elems.length = l.length) := by
  obtain ⟨fuel, hf⟩ := h
  rcases open_slice_pairs Try.underlying22 Try.underlying37 cells37 rfl rfl cells9 cells9 hf with ⟨hcs, hx⟩ | ⟨a, len, cap, m, n, V0, V1, D0, D1, P0, P1, hcs, _, hl, hm, hmm, hx, hall⟩
  · simp [Value.cells] at hcs
    obtain ⟨rfl, rfl, rfl⟩ := hcs
    exact ⟨[], rfl, ⟨none, 0, rfl, fun i hi => by cases hi⟩, (fun e he => by cases he), Or.inl rfl⟩
  · simp [Value.cells] at hcs
    obtain ⟨rfl, rfl, rfl⟩ := hcs
    simp only [if_true] at hmm
    subst hmm
    simp only [Prod.mk.injEq] at hx
    obtain ⟨rfl, rfl⟩ := hx
    have hs : ∀ i, i < n0 → W.cell? (a.add (i * 2)) = some (.string (strv (V0 i))) ∧ W.cell? (a.add (i * 2 + 1)) = some (.string (strv (V1 i))) ∧ (strv (V0 i)).size ≤ maxLen ∧ (strv (V1 i)).size ≤ maxLen := fun i hi => by
      obtain ⟨k0, k1, t0, t1⟩ := hall i (by omega)
      obtain ⟨s0, e0, _, z0⟩ := DataW.trod_string Try.underlying9 t0
      obtain ⟨s1, e1, _, z1⟩ := DataW.trod_string Try.underlying9 t1
      simp only [List.cons.injEq, and_true] at e0 e1
      rw [e0] at k0
      rw [e1] at k1
      rw [e0, e1]
      exact ⟨k0, k1, z0, z1⟩
    refine ⟨(List.range n0).map fun i => (strv (V0 i), strv (V1 i)), by simp, ⟨some a, _, by simp; rfl, fun i hi => ?_⟩, fun e he => ?_, Or.inr ⟨_, _, rfl, by simp⟩⟩
    · have hi' : i < n0 := by simpa using hi
      obtain ⟨k0, k1, _, _⟩ := hs i hi'
      obtain ⟨b, off, rfl, e1⟩ := addr_form (hs 0 (by omega)).1
      rw [e1] at k0 k1
      refine ⟨b, off, rfl, World.block_lt_of_cell? W _ k0, ?_, ?_⟩
      · rw [k0]; simp
      · rw [Nat.add_assoc, k1]; simp
    · obtain ⟨i, hi, rfl⟩ := List.mem_map.1 he
      have := hs i (List.mem_range.1 hi)
      exact ⟨this.2.2.1, this.2.2.2⟩
theorem open_asks (h : DataW.Trod enc Try.prog W 0 (fun _ => true) true 40 (.slice a0 n0 c0) d p) :
    ∃ l : List (Int × ByteArray), n0 = l.length ∧ LiesQ W (.slice a0 n0 c0) l ∧ (∀ e ∈ l, e.2.size ≤ maxLen) := by
  obtain ⟨fuel, hf⟩ := h
  rcases open_slice_pairs Try.underlying40 Try.underlying42 cells42 rfl rfl cells3 cells9 hf with ⟨hcs, hx⟩ | ⟨a, len, cap, m, n, V0, V1, D0, D1, P0, P1, hcs, _, hl, hm, hmm, hx, hall⟩
  · simp [Value.cells] at hcs
    obtain ⟨rfl, rfl, rfl⟩ := hcs
    exact ⟨[], rfl, ⟨none, 0, rfl, fun i hi => by cases hi⟩, fun e he => by cases he⟩
  · simp [Value.cells] at hcs
    obtain ⟨rfl, rfl, rfl⟩ := hcs
    simp only [if_true] at hmm
    subst hmm
    have hs : ∀ i, i < n0 → W.cell? (a.add (i * 2)) = some (.int .i64 (intv (V0 i))) ∧ W.cell? (a.add (i * 2 + 1)) = some (.string (strv (V1 i))) ∧ (strv (V1 i)).size ≤ maxLen := fun i hi => by
      obtain ⟨k0, k1, t0, t1⟩ := hall i (by omega)
      obtain ⟨s0, e0, _, _⟩ := DataW.trod_int Try.underlying3 t0
      obtain ⟨s1, e1, _, z1⟩ := DataW.trod_string Try.underlying9 t1
      simp only [List.cons.injEq, and_true] at e0 e1
      rw [e0] at k0
      rw [e1] at k1
      rw [e0, e1]
      exact ⟨k0, k1, z1⟩
    refine ⟨(List.range n0).map fun i => (intv (V0 i), strv (V1 i)), by simp, ⟨some a, _, by simp; rfl, fun i hi => ?_⟩, fun e he => ?_⟩
    · have hi' : i < n0 := by simpa using hi
      obtain ⟨k0, k1, _⟩ := hs i hi'
      obtain ⟨b, off, rfl, e1⟩ := addr_form (hs 0 (by omega)).1
      rw [e1] at k0 k1
      refine ⟨b, off, rfl, World.block_lt_of_cell? W _ k0, ?_, ?_⟩
      · rw [k0]; simp
      · rw [Nat.add_assoc, k1]; simp
    · obtain ⟨i, hi, rfl⟩ := List.mem_map.1 he
      exact (hs i (List.mem_range.1 hi)).2.2
end
end Go.Proofs.Ytofikcmjpecmoaa
