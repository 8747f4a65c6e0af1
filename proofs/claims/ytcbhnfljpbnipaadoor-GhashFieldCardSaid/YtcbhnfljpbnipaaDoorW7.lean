/- THE WALK OF pyxisref08.Element.Text. -/
import Derived.Test.YtcbhnfljpbnipaaDoorW1
namespace Go.Proofs.YtcbhnfljpbnipaaDoor
open Go.RowKit
attribute [local go_sem] setCell_drewN alloc_drewN
def orBit (x : UInt8) (i : Nat) : UInt8 := x ||| UInt8.ofNat (2 ^ (7 - i % 8))
theorem orBit_eq (x : UInt8) (i : Nat) : bits .or .u8 ((x.toNat : Nat) : Int) ((2 : Int) ^ (7 - i % 8) % 256) = (((orBit x i).toNat : Nat) : Int) := by
  have h : 2 ^ (7 - i % 8) < 256 := Nat.lt_of_le_of_lt (Nat.pow_le_pow_right (by decide) (by omega : 7 - i % 8 ≤ 7)) (by decide)
  obtain ⟨y, hy⟩ : ∃ y : Nat, y = 2 ^ (7 - i % 8) := ⟨_, rfl⟩
  have e0 : ((2 : Int) ^ (7 - i % 8)) = ((2 ^ (7 - i % 8) : Nat) : Int) := (Int.natCast_pow 2 (7 - i % 8)).symm
  have e : ((2 : Int) ^ (7 - i % 8) % 256) = ((y : Nat) : Int) := by
    rw [e0, ← hy]; rw [← hy] at h; omega
  unfold orBit
  rw [e, ← hy, u8_or_nat _ _ x.toNat_lt (hy ▸ h), UInt8.toNat_or]
  congr 2
  rw [UInt8.toNat_ofNat', Nat.mod_eq_of_lt (hy ▸ h)]
def txTo (e : List Bool) : Nat → List UInt8
  | 0 => List.replicate 16 0
  | i + 1 => if e[i]?.getD false then (txTo e i).set (i / 8) (orBit ((txTo e i).getD (i / 8) 0) i) else txTo e i
theorem txTo_length (e : List Bool) (i : Nat) : (txTo e i).length = 16 := by
  induction i with
  | zero => rfl
  | succ i ih => simp only [txTo]; split <;> simp [ih]
set_option maxRecDepth 100000 in
set_option maxHeartbeats 400000 in
theorem text_t (w : World) (e : List Bool) (he : e.length = 128) :
    Calls Tryd.prog 20 #[.agg (bls e)] w fun r w' => r = .returned (.string ⟨(txTo e 128).toArray⟩) ∧ Below w.heap.size w w' := by
  have HE := Lib.hid he
  clear he
  go_enter Tryd.func20, Tryd.ntmps20
  go_wp2
  go_loopw [4] (fun i wr => ∃ k : Nat, k ≤ 128 ∧ i = .int .i64 k ∧ wr = (w.alloc (.cells (bls e) 41)).alloc (.cells (u8s (txTo e k)) 49)) (fun i _ => 128 - (intOf i).toNat)
  case atStart => exact ⟨0, by omega, rfl, rfl⟩
  case round =>
    obtain ⟨i, hi, rfl, rfl⟩ := hrel
    by_cases hlt : i < 128
    · have c1 := bls_get e i (by have := HE.out; omega)
      have c2 := u8s_get (txTo e i) (i / 8) (by rw [txTo_length]; omega)
      rw [List.getD_eq_getElem?_getD] at c1
      cases hei : e[i]?.getD false with
      | false =>
        rw [hei] at c1
        have HEI := Lib.hid hei
        clear hei
        go_wp2
        exact ⟨⟨i + 1, by omega, by go_num, by simp only [txTo, HEI.out]; rfl⟩, by simp [intOf]; omega⟩
      | true =>
        rw [hei] at c1
        have HEI := Lib.hid hei
        clear hei
        go_wp2
        exact ⟨⟨i + 1, by omega, by go_num, by rw [orBit_eq, u8s_set]; simp only [txTo, HEI.out, List.getD_eq_getElem?_getD]; rfl⟩, by simp [intOf]; omega⟩
    · obtain rfl : i = 128 := by omega
      have hconv := run_conv_row (P := Tryd.prog) ((w.alloc (.cells (bls e) 41)).alloc (.cells (u8s (txTo e 128)) 49)) (w.heap.size + 1) 16 16 (txTo e 128) 49 (0, 0) 44 9 5 Tryd.underlying44 Tryd.underlying5 Tryd.underlying9 (by simpa using heap_alloc_last (w.alloc (.cells (bls e) 41)) (.cells (u8s (txTo e 128)) 49)) (txTo_length e 128)
      go_wp2
      go_ret
      exact ⟨rfl, ((Below.refl _ _).alloc (Nat.le_refl _) _).alloc (by simp) _⟩
end Go.Proofs.YtcbhnfljpbnipaaDoor
