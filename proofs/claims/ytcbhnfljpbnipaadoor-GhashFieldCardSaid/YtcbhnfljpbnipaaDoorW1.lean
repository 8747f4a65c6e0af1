/- THE WALKS OF ghash's SMALL FUNCTIONS: times, load, store. -/
import Derived.Test.YtcbhnfljpbnipaaDoorProg
import Derived.Test.YtcbhnfljpbnipaaDoorBv
import Derived.WalkLawsBesides
import Derived.WalkSpells
import Derived.BigRegion
import Derived.Deep.Draws
import Derived.Lib.Hide
namespace Go.Proofs.YtcbhnfljpbnipaaDoor
open Go.RowKit
attribute [local go_sem] b64_xor b64_or b64_and b64_shr1 b64_shr4 b64_shl63 b64_shl60 b64_shl48 b64_shl8 b64_xorR b64_and1 b64_and15 b64_orByte b64_byte
attribute [local go_sem] setCell_drewN alloc_drewN
/-- p times x -/
def tms (p : BitVec 64 × BitVec 64) : BitVec 64 × BitVec 64 :=
  (if n64 (p.2 &&& 1#64) == 1 then (p.1 >>> 1) ^^^ 0xe100000000000000#64 else p.1 >>> 1, p.2 >>> 1 ||| p.1 <<< 63)
theorem times_t (w : World) (hi lo : BitVec 64)  :
    Calls Tryd.prog 22 #[.agg #[.int .u64 (n64 hi), .int .u64 (n64 lo)]] w fun e w' => e = .returned (.agg #[.int .u64 (n64 (tms (hi, lo)).1), .int .u64 (n64 (tms (hi, lo)).2)]) ∧ Below w.heap.size w w' := by
  have hp : (n64 (lo &&& 1#64) == 1) = true ∨ (n64 (lo &&& 1#64) == 1) = false := by cases (n64 (lo &&& 1#64) == 1) <;> simp
  rcases hp with hp | hp
  · go_enter Tryd.func22, Tryd.ntmps22
    go_wp2
    exact bodyPost_ret (v := .agg #[.int .u64 (n64 (hi >>> 1 ^^^ 0xe100000000000000#64)), .int .u64 (n64 (lo >>> 1 ||| hi <<< 63))]) (by simp [results, Tryd.results22, go_sem]) rfl ⟨by simp only [tms, hp]; rfl, ((((Below.refl _ _).alloc (Nat.le_refl _) _).alloc (by simp) _).alloc (by simp; omega) _)⟩
  · go_enter Tryd.func22, Tryd.ntmps22
    go_wp2
    exact bodyPost_ret (v := .agg #[.int .u64 (n64 (hi >>> 1)), .int .u64 (n64 (lo >>> 1 ||| hi <<< 63))]) (by simp [results, Tryd.results22, go_sem]) rfl ⟨by simp only [tms, hp]; rfl, ((((Below.refl _ _).alloc (Nat.le_refl _) _).alloc (by simp) _).alloc (by simp; omega) _)⟩

def at8 (s : ByteArray) (i : Nat) : BitVec 64 := (s.data.toList.getD i 0).toBitVec.setWidth 64
def ldTo (s : ByteArray) (off : Nat) : Nat → BitVec 64
  | 0 => 0#64
  | k + 1 => ldTo s off k <<< 8 ||| at8 s (off + k)
theorem at8_get (s : ByteArray) (i : Nat) (h : i < s.size) : s[i].toBitVec.setWidth 64 = at8 s i := by
  unfold at8
  have h' : i < s.data.toList.length := by simpa using h
  rw [List.getD_eq_getElem?_getD, List.getElem?_eq_getElem h']; rfl
set_option maxHeartbeats 400000 in
theorem load_t (w : World) (s : ByteArray) (hs : s.size = 16) :
    Calls Tryd.prog 15 #[.string s] w fun e w' => e = .returned (.agg #[.int .u64 (n64 (ldTo s 0 8)), .int .u64 (n64 (ldTo s 8 8))]) ∧ Below w.heap.size w w' := by
  have HS := Lib.hid hs
  clear hs
  go_enter Tryd.func15, Tryd.ntmps15
  go_wp2
  go_loopw [4] (fun i wr => ∃ k : Nat, k ≤ 8 ∧ i = .int .i64 k ∧ ∃ q, wr = (w.alloc (.cells #[.int .u64 (n64 (ldTo s 0 k)), .int .u64 (n64 (ldTo s 8 k))] 33)).drewN q) (fun i _ => 8 - (intOf i).toNat)
  case atStart => exact ⟨0, by omega, rfl, 0, rfl⟩
  case round =>
    obtain ⟨k, hk, rfl, q, rfl⟩ := hrel
    by_cases hlt : k < 8
    · have g1 : k < s.size := by have := HS.out; omega
      have g2 : 8 + k < s.size := by have := HS.out; omega
      have e1 : IntKind.i64.wrap (8 + (k : Int)) = 8 + (k : Int) := i64_add 8 k (by omega)
      have e2 : 0 ≤ 8 + (k : Int) := by omega
      have e3 : (8 + (k : Int)).toNat = 8 + k := by omega
      have e4 : 8 + (k : Int) < s.size := by omega
      go_wp2
      go_region
      go_wp2
      go_region
      go_wp2
      go_roundw
      case rel => exact ⟨k + 1, by omega, by go_num, _, by rw [at8_get s k g1, at8_get s _ g2]; simp only [ldTo, Nat.zero_add]; rfl⟩
      case measure => simp [intOf]; omega
    · obtain rfl : k = 8 := by omega
      go_wp2
      exact bodyPost_ret (v := .agg #[.int .u64 (n64 (ldTo s 0 8)), .int .u64 (n64 (ldTo s 8 8))]) (by simp [results, Tryd.results15, go_sem]) rfl ⟨rfl, below_drewN ((Below.refl _ _).alloc (Nat.le_refl _) _) _⟩

def byteOf (x : BitVec 64) (j : Nat) : UInt8 := UInt8.ofNat (x.toNat / 2 ^ (56 - 8 * j) % 256)
theorem byteOf_eq (x : BitVec 64) (j : Nat) : n64 x / (2 : Int) ^ (56 - 8 * j) % 256 = (((byteOf x j).toNat : Nat) : Int) := by
  unfold byteOf n64
  have h : (UInt8.ofNat (x.toNat / 2 ^ (56 - 8 * j) % 256)).toNat = x.toNat / 2 ^ (56 - 8 * j) % 256 := by simp
  rw [h]; simp
def stTo (hi lo : BitVec 64) : Nat → List UInt8
  | 0 => List.replicate 16 0
  | k + 1 => ((stTo hi lo k).set k (byteOf hi k)).set (8 + k) (byteOf lo k)
theorem stTo_length (hi lo : BitVec 64) (k : Nat) : (stTo hi lo k).length = 16 := by
  induction k with
  | zero => rfl
  | succ k ih => simp [stTo, ih]
set_option maxHeartbeats 400000 in
theorem store_t (w : World) (hi lo : BitVec 64) :
    Calls Tryd.prog 17 #[.agg #[.int .u64 (n64 hi), .int .u64 (n64 lo)]] w fun e w' => e = .returned (.string ⟨(stTo hi lo 8).toArray⟩) ∧ Below w.heap.size w w' := by
  go_enter Tryd.func17, Tryd.ntmps17
  go_wp2
  go_loopw [5] (fun i wr => ∃ k : Nat, k ≤ 8 ∧ i = .int .i64 k ∧ wr = ((w.alloc (.cells #[.int .u64 (n64 hi), .int .u64 (n64 lo)] 33)).alloc (.cells (u8s (stTo hi lo k)) 49))) (fun i _ => 8 - (intOf i).toNat)
  case atStart => exact ⟨0, by omega, rfl, rfl⟩
  case round =>
    obtain ⟨k, hk, rfl, rfl⟩ := hrel
    have HL : Hid ((stTo hi lo k).length = 16) := stTo_length hi lo k
    by_cases hlt : k < 8
    · have e1 : IntKind.i64.wrap (8 + (k : Int)) = 8 + (k : Int) := i64_add 8 k (by omega)
      have e2 : 0 ≤ 8 + (k : Int) := by omega
      have e3 : (8 + (k : Int)).toNat = 8 + k := by omega
      have e5 : IntKind.i64.wrap (8 * (k : Int)) = 8 * (k : Int) := IntWalk.i64_in _ (by omega)
      have e6 : IntKind.i64.wrap (56 - 8 * (k : Int)) = 56 - 8 * (k : Int) := IntWalk.i64_in _ (by omega)
      have e7 : 0 ≤ 56 - 8 * (k : Int) := by omega
      have c1 := u8s_get (stTo hi lo k) k (by have := HL.out; omega)
      have c2 := u8s_get (stTo hi lo k) (8 + k) (by have := HL.out; omega)
      go_wp2
      go_roundw
      case rel => exact ⟨k + 1, by omega, by go_num, by rw [byteOf_eq, byteOf_eq, u8s_set, u8s_set]; rfl⟩
      case measure => simp [intOf]; omega
    · obtain rfl : k = 8 := by omega
      have hconv := run_conv_row (P := Tryd.prog) ((w.alloc (.cells #[.int .u64 (n64 hi), .int .u64 (n64 lo)] 33)).alloc (.cells (u8s (stTo hi lo 8)) 49)) (w.heap.size + 1) 16 16 (stTo hi lo 8) 49 (0, 0) 44 9 5 Tryd.underlying44 Tryd.underlying5 Tryd.underlying9 (by simpa using heap_alloc_last (w.alloc (.cells #[.int .u64 (n64 hi), .int .u64 (n64 lo)] 33)) (.cells (u8s (stTo hi lo 8)) 49)) HL.out
      go_wp2
      go_ret
      exact ⟨rfl, ((Below.refl _ _).alloc (Nat.le_refl _) _).alloc (by simp) _⟩
end Go.Proofs.YtcbhnfljpbnipaaDoor
