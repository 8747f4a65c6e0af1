/- THE WALK OF ghash.pair.by. -/
import Derived.Test.YtcbhnfljpbnipaaDoorW1
namespace Go.Proofs.YtcbhnfljpbnipaaDoor
open Go.RowKit
attribute [local go_sem] b64_xor b64_or b64_and b64_shr1 b64_shr4 b64_shl63 b64_shl60 b64_shl48 b64_shl8 b64_xorR b64_and1 b64_and15 b64_orByte b64_byte setCell_drewN alloc_drewN
def foldL : List (BitVec 64) := [0x0000#64, 0x1c20#64, 0x3840#64, 0x2460#64, 0x7080#64, 0x6ca0#64, 0x48c0#64, 0x54e0#64, 0xe100#64, 0xfd20#64, 0xd940#64, 0xc560#64, 0x9180#64, 0x8da0#64, 0xa9c0#64, 0xb5e0#64]
def byStep (ms : List (BitVec 64)) (z : BitVec 64 × BitVec 64) (x : BitVec 64) : BitVec 64 × BitVec 64 :=
  ((z.1 >>> 4 ^^^ foldL[(z.2 &&& 15#64).toNat]?.getD 0#64 <<< 48) ^^^ ms[(x &&& 15#64).toNat * 2]?.getD 0#64, (z.2 >>> 4 ||| z.1 <<< 60) ^^^ ms[(x &&& 15#64).toNat * 2 + 1]?.getD 0#64)
def byTo (ms : List (BitVec 64)) (z : BitVec 64 × BitVec 64) (x : BitVec 64) : Nat → (BitVec 64 × BitVec 64) × BitVec 64
  | 0 => (z, x)
  | k + 1 => (byStep ms (byTo ms z x k).1 (byTo ms z x k).2, (byTo ms z x k).2 >>> 4)
/-- the words of p, the last first -/
def word (p : BitVec 64 × BitVec 64) (i : Nat) : BitVec 64 := if i = 0 then p.2 else p.1
def byAll (ms : List (BitVec 64)) (p : BitVec 64 × BitVec 64) : Nat → BitVec 64 × BitVec 64
  | 0 => (0#64, 0#64)
  | i + 1 => (byTo ms (byAll ms p i) (word p i) 16).1
theorem and15_lt (x : BitVec 64) : (x &&& 15#64).toNat < 16 := by
  rw [BitVec.toNat_and]; exact Nat.lt_of_le_of_lt Nat.and_le_right (by decide)
set_option maxRecDepth 100000 in
set_option maxHeartbeats 1000000 in
theorem by_t (w : World) (hi lo : BitVec 64) (gm : Nat) (ms : List (BitVec 64)) (hml : ms.length = 32) (hm : Blk w gm 34 (u64s ms))
    (hF : ∀ i, i < 16 → w.cell? ⟨0, i, none⟩ = some (.int .u64 (n64 (foldL[i]?.getD 0#64)))) :
    Calls Tryd.prog 16 #[.agg #[.int .u64 (n64 hi), .int .u64 (n64 lo)], .pointer (some ⟨gm, 0, none⟩)] w fun e w' => e = .returned (.agg #[.int .u64 (n64 (byAll ms (hi, lo) 2).1), .int .u64 (n64 (byAll ms (hi, lo) 2).2)]) ∧ Below w.heap.size w w' := by
  have hgm := hm.lt
  have h0 : 0 < w.heap.size := by omega
  have s1 : gm < w.heap.size + 1 := by omega
  have s2 : gm < w.heap.size + 1 + 1 := by omega
  have i0 : ∀ w, (Instr.index 47 (.agg #[.int .u64 (n64 lo), .int .u64 (n64 hi)]) (.int .i64 0)).run Tryd.prog w = .ok (.int .u64 (n64 lo)) w := fun _ => by kernel_rfl
  have i1 : ∀ w, (Instr.index 47 (.agg #[.int .u64 (n64 lo), .int .u64 (n64 hi)]) (.int .i64 1)).run Tryd.prog w = .ok (.int .u64 (n64 hi)) w := fun _ => by kernel_rfl
  have HM := Lib.hid hm; have HF := Lib.hid hF; have HL := Lib.hid hml
  clear hm hF hml
  go_enter Tryd.func16, Tryd.ntmps16
  go_wp2
  go_loopw [14] (fun i wr => ∃ k : Nat, k ≤ 2 ∧ i = .int .i64 k ∧ ∃ q, wr = (((w.alloc (.cells #[.int .u64 (n64 hi), .int .u64 (n64 lo)] 33)).alloc (.cells #[.int .u64 0, .int .u64 0] 33)).alloc (.cells #[.int .u64 (n64 (byAll ms (hi, lo) k).1), .int .u64 (n64 (byAll ms (hi, lo) k).2)] 33)).drewN q) (fun i _ => 2 - (intOf i).toNat)
  case atStart => exact ⟨0, by omega, rfl, 0, rfl⟩
  case round =>
    obtain ⟨k, hk, rfl, q, rfl⟩ := hrel
    by_cases hlt : k < 2
    · have hx : ∀ w, (Instr.index 47 (.agg #[.int .u64 (n64 lo), .int .u64 (n64 hi)]) (.int .i64 (k : Int))).run Tryd.prog w = .ok (.int .u64 (n64 (word (hi, lo) k))) w := by
        rcases (by omega : k = 0 ∨ k = 1) with rfl | rfl
        · exact i0
        · exact i1
      clear i0 i1
      obtain ⟨Z, hZ⟩ : ∃ Z, Z = byAll ms (hi, lo) k := ⟨_, rfl⟩
      obtain ⟨X, hX⟩ : ∃ X, X = word (hi, lo) k := ⟨_, rfl⟩
      rw [← hX] at hx
      rw [← hZ]
      have HZ := Lib.hid hZ; have HX := Lib.hid hX
      clear hZ hX
      go_wp2
      go_loopw [7, 17] (fun x t wr => ∃ j : Nat, j ≤ 16 ∧ t = .int .i64 j ∧ x = .int .u64 (n64 (byTo ms Z X j).2) ∧ ∃ q, wr = (((w.alloc (.cells #[.int .u64 (n64 hi), .int .u64 (n64 lo)] 33)).alloc (.cells #[.int .u64 0, .int .u64 0] 33)).alloc (.cells #[.int .u64 (n64 (byTo ms Z X j).1.1), .int .u64 (n64 (byTo ms Z X j).1.2)] 33)).drewN q) (fun _ t _ => 16 - (intOf t).toNat)
      case atStart => exact ⟨0, by omega, rfl, rfl, q, rfl⟩
      case round =>
        obtain ⟨j, hj, rfl, rfl, q', rfl⟩ := hrel
        by_cases hlt : j < 16
        · have st : byTo ms Z X (j + 1) = (byStep ms (byTo ms Z X j).1 (byTo ms Z X j).2, (byTo ms Z X j).2 >>> 4) := rfl
          obtain ⟨z, hz⟩ : ∃ z, z = (byTo ms Z X j).1 := ⟨_, rfl⟩
          obtain ⟨x, hx'⟩ : ∃ x, x = (byTo ms Z X j).2 := ⟨_, rfl⟩
          rw [← hz, ← hx'] at st ⊢
          obtain ⟨zh, zl⟩ := z
          have ST := Lib.hid st
          clear st hz hx' hx
          obtain ⟨o, ho⟩ : ∃ o : Nat, o = (zl &&& 15#64).toNat := ⟨_, rfl⟩
          obtain ⟨m, hm⟩ : ∃ m : Nat, m = (x &&& 15#64).toNat := ⟨_, rfl⟩
          have o16 : o < 16 := ho ▸ and15_lt zl
          have m16 : m < 16 := hm ▸ and15_lt x
          have ro : n64 (zl &&& 15#64) = (o : Int) := by rw [ho]; rfl
          have rm : n64 (x &&& 15#64) = (m : Int) := by rw [hm]; rfl
          have cF := HF.out o o16
          have c0 := (HM.out.cell (m * 2)).trans (u64s_get ms (m * 2) (by have := HL.out; omega))
          have c1 := (HM.out.cell (m * 2 + 1)).trans (u64s_get ms (m * 2 + 1) (by have := HL.out; omega))
          have HO := Lib.hid ho; have HMM := Lib.hid hm
          clear ho hm
          go_wp2
          go_region
          go_wp2
          go_region
          go_wp2
          go_region
          go_wp2
          refine ⟨⟨j + 1, by omega, by go_num, by rw [ST.out], q' + 1 + 1 + 1, ?_⟩, by simp [intOf]; omega⟩
          rw [ST.out]
          simp only [byStep, ← HO.out, ← HMM.out]
        · obtain rfl : j = 16 := by omega
          clear hx
          go_wp2
          go_roundw
          case rel => exact ⟨k + 1, by omega, by go_num, q', by rw [show byAll ms (hi, lo) (k + 1) = (byTo ms Z X 16).1 by rw [HZ.out, HX.out]; rfl]⟩
          case measure => simp [intOf]; omega
    · obtain rfl : k = 2 := by omega
      clear i0 i1
      go_wp2
      exact bodyPost_ret (v := .agg #[.int .u64 (n64 (byAll ms (hi, lo) 2).1), .int .u64 (n64 (byAll ms (hi, lo) 2).2)]) (by simp [results, Tryd.results16, go_sem]) rfl ⟨rfl, below_drewN ((((Below.refl _ _).alloc (Nat.le_refl _) _).alloc (by simp) _).alloc (by simp; omega) _) _⟩
end Go.Proofs.YtcbhnfljpbnipaaDoor
