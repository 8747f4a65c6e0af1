/- octet.Put and pyxisref01.Put. -/
import Derived.Test.YtooakkelinaelaaW3
import Derived.Test.YtooakkelinaelaaW5
import Derived.Outline
namespace Go.Proofs.Ytooakkelinaelaa
open Go.RowKit
/-- a byte of a number -/
def bt (n j : Nat) : UInt8 := UInt8.ofNat (n / 2 ^ j)
/-- the last k bytes of a number -/
def tb (n : Nat) : Nat → List UInt8
  | 0 => []
  | k + 1 => bt n (8 * k) :: tb n k
theorem tb_length (n k : Nat) : (tb n k).length = k := by
  induction k with
  | zero => rfl
  | succ k ih => simp [tb, ih]
theorem tb_get (n w k : Nat) (h : k < w) : (tb n w)[k]? = some (bt n (8 * (w - 1 - k))) := by
  induction w generalizing k with
  | zero => omega
  | succ w ih =>
    cases k with
    | zero => simp [tb]
    | succ k =>
      rw [tb, List.getElem?_cons_succ, ih k (by omega)]
      have e : w - 1 - k = w + 1 - 1 - (k + 1) := by omega
      rw [e]
theorem tb_snoc (n w k : Nat) (h : k < w) : (tb n w).take (k + 1) = (tb n w).take k ++ [bt n (8 * (w - 1 - k))] := by
  rw [List.take_add_one, tb_get n w k h]; rfl
theorem tb_set (n w k : Nat) (h : k < w) : (zeros (w - k) ++ tb n k).set (w - 1 - k) (bt n (8 * k)) = zeros (w - (k + 1)) ++ tb n (k + 1) := by
  obtain ⟨d, rfl⟩ : ∃ d, w = k + 1 + d := ⟨w - (k + 1), by omega⟩
  have h1 : k + 1 + d - k = d + 1 := by omega
  have h2 : k + 1 + d - 1 - k = d := by omega
  have h3 : k + 1 + d - (k + 1) = d := by omega
  rw [h1, h2, h3]
  have h4 : zeros (d + 1) = zeros d ++ [0] := List.replicate_succ'
  rw [h4, List.append_assoc, List.set_append_right _ _ (by rw [zeros_length]; exact Nat.le_refl _)]
  rw [zeros_length, Nat.sub_self]
  rfl
theorem byte_of (x : Nat) : IntKind.u8.wrap ((x : Nat) : Int) = (((UInt8.ofNat x).toNat : Nat) : Int) := by
  rw [IntKind.wrap_u8, UInt8.toNat_ofNat']; omega
/-- the bytes of a number are a text -/
def tbs (n w : Nat) : ByteArray := ⟨(tb n w).toArray⟩
theorem tbs_size (n w : Nat) : (tbs n w).size = w := by
  show (tb n w).toArray.size = w
  simp [tb_length]
theorem tbs_at (n w k : Nat) (h : k < w) : byteAt (tbs n w) k = bt n (8 * (w - 1 - k)) := by
  unfold byteAt
  show ((tb n w).toArray.toList[k]?).getD 0 = _
  rw [List.toList_toArray, tb_get n w k h]; rfl
theorem gv_tb (n w k : Nat) (h : k ≤ w) : gv (tbs n w) k = n / 2 ^ (8 * (w - k)) % 2 ^ (8 * k) := by
  induction k with
  | zero => simp [gv, Nat.mod_one]
  | succ k ih =>
    rw [gv, ih (by omega), tbs_at n w k (by omega), bt, UInt8.toNat_ofNat']
    obtain ⟨d, rfl⟩ : ∃ d, w = k + 1 + d := ⟨w - (k + 1), by omega⟩
    have h1 : k + 1 + d - k = d + 1 := by omega
    have h2 : k + 1 + d - 1 - k = d := by omega
    have h3 : k + 1 + d - (k + 1) = d := by omega
    rw [h1, h2, h3]
    have e1 : 2 ^ (8 * (d + 1)) = 2 ^ (8 * d) * 256 := by rw [Nat.mul_add, Nat.pow_add]
    have e2 : 2 ^ (8 * (k + 1)) = 256 * 2 ^ (8 * k) := by rw [Nat.mul_add, Nat.pow_add, Nat.mul_comm]
    rw [e1, ← Nat.div_div_eq_div_mul, e2]
    generalize n / 2 ^ (8 * d) = m
    rw [Nat.mod_mul]
    have : (2 : Nat) ^ 8 = 256 := rfl
    rw [this]
    omega
theorem gv_tb_all (n w : Nat) (hn : n < 18446744073709551616) (hw : w ≤ 8) : gv (tbs n w) w = n ↔ (w = 8 ∨ n / 2 ^ (8 * w) = 0) := by
  rw [gv_tb n w w (Nat.le_refl w), Nat.sub_self, Nat.mul_zero, Nat.pow_zero, Nat.div_one]
  have hp : 0 < 2 ^ (8 * w) := Nat.pow_pos (by decide)
  constructor
  · intro h
    right
    rw [← h]
    exact Nat.div_eq_of_lt (Nat.mod_lt _ hp)
  · rintro (rfl | h)
    · exact Nat.mod_eq_of_lt hn
    · exact Nat.mod_eq_of_lt ((Nat.div_eq_zero_iff_lt hp).1 h)
/-- what Put answers -/
def putOk (n : Nat) (w : Int) : Bool := decide (1 ≤ w) && decide (w ≤ 8) && (decide (w = 8) || decide (n / 2 ^ (8 * w.toNat) = 0))
def putS (n : Nat) (w : Int) : ByteArray := if putOk n w then tbs n w.toNat else ByteArray.empty
def putE (n : Nat) (w : Int) : Int := if putOk n w then 0 else 2
theorem shr_nat (n j : Nat) : ((n : Nat) : Int) / (2 : Int) ^ j = ((n / 2 ^ j : Nat) : Int) := by simp
theorem byte_shr (n j : Nat) : IntKind.u8.wrap (((n : Nat) : Int) / (2 : Int) ^ j) = (((bt n j).toNat : Nat) : Int) := by rw [shr_nat, byte_of]; rfl
theorem byte_shr' (n j : Nat) : (((n : Nat) : Int) / (2 : Int) ^ j) % 256 = (((bt n j).toNat : Nat) : Int) := by rw [← byte_shr, IntKind.wrap_u8]
attribute [local go_sem] setCell_drewN alloc_drewN byte_shr byte_shr'
set_option maxRecDepth 100000 in
set_option maxHeartbeats 400000 in
theorem put_ok (W : World) (n w : Nat) (h1 : 1 ≤ w) (h8 : w ≤ 8) (hw : w = 8 ∨ w < 8 ∧ n / 2 ^ (8 * w) = 0) :
    Calls Try.prog 16 #[.int .u64 (n : Nat), .int .i64 (w : Nat)] W fun e w' => e = .returned (.tuple #[.string (tbs n w), .int .i64 0]) ∧ Below W.heap.size W w' := by
  have hmk := make_bytes w (by omega)
  have hl : ∀ k, k ≤ w → (zeros (w - k) ++ tb n k).length = w := fun k hk => by rw [List.length_append, zeros_length, tb_length]; omega
  have HL := Lib.hid hl
  have HS := Lib.hid (tb_set n w)
  clear hl
  have hw' : w = 8 ∨ (w < 8 ∧ (((n : Nat) : Int) / (2 : Int) ^ (8 * w) != 0) = false) := by
    rcases hw with h | ⟨h, hz⟩
    · exact .inl h
    · right; refine ⟨h, ?_⟩; rw [shr_nat, hz]; rfl
  clear hw
  have hst : zeros (w - 0) ++ tb n 0 = zeros w := by rw [Nat.sub_zero]; exact List.append_nil _
  have HZ := Lib.hid hst
  clear hst
  have hw2 : decide ((w : Int) < 8) = false ∨ decide ((w : Int) < 8) = true ∧ (((n : Nat) : Int) / (2 : Int) ^ (8 * w) != 0) = false := by
    rcases hw' with h | ⟨h, h2⟩
    · left; exact decide_eq_false (by omega)
    · right; exact ⟨decide_eq_true (by omega), h2⟩
  clear hw'
  rcases hw2 with h | ⟨h, t1⟩
  all_goals
    go_enter Try.func16, Try.ntmps16
    go_wp2
    clear hmk
    go_loopw [28] (fun i wr => ∃ k : Nat, k ≤ w ∧ i = .int .i64 k ∧ ∃ q, wr = (W.alloc (.cells (u8s (zeros (w - k) ++ tb n k)) 5)).drewN q) (fun i _ => w - (intOf i).toNat)
    case atStart => exact ⟨0, by omega, rfl, 0, by rw [HZ.out]; rfl⟩
    case round =>
      obtain ⟨k, hk, rfl, q, rfl⟩ := hrel
      by_cases hlt : k < w
      · obtain ⟨d, hd⟩ : ∃ d, d = w - 1 - k := ⟨_, rfl⟩
        have t2 : (w : Int) - 1 - (k : Int) = (d : Int) := by omega
        have t3 : d < w := by omega
        have HD := Lib.hid hd
        clear hd
        have c1 := u8s_get (zeros (w - k) ++ tb n k) d (by rw [HL.out k hk]; exact t3)
        go_wp2
        refine ⟨⟨k + 1, by omega, by go_num, q, ?_⟩, by simp [intOf]; omega⟩
        rw [← HS.out k hlt, ← HD.out, ← u8s_set]
      · obtain rfl : k = w := by omega
        obtain ⟨L, hL⟩ : ∃ L, L = zeros (k - k) ++ tb n k := ⟨_, rfl⟩
        have hlen := HL.out k (Nat.le_refl _)
        rw [← hL] at hlen ⊢
        have hconv := run_conv_row (P := Try.prog) ((W.alloc (.cells (u8s L) 5)).drewN q) W.heap.size k k L 5 (0, 0) 44 9 5 Try.underlying44 Try.underlying5 Try.underlying9 (heap_alloc_last W _) hlen
        have HLL := Lib.hid hL
        clear hL hlen
        go_wp2
        go_ret2
        refine ⟨?_, below_drewN ((Below.refl _ _).alloc (Nat.le_refl _) _) _⟩
        rw [HLL.out, Nat.sub_self]; rfl
theorem put_wide (W : World) (n : Nat) (w : Int) (hw : w < 1 ∨ ¬ w < 1 ∧ 8 < w) :
    Calls Try.prog 16 #[.int .u64 (n : Nat), .int .i64 w] W fun e w' => e = .returned (.tuple #[.string ByteArray.empty, .int .i64 2]) ∧ Below W.heap.size W w' := by
  rcases hw with h | ⟨h, h2⟩
  all_goals
    go_enter Try.func16, Try.ntmps16
    go_wp2
    go_ret2
    exact ⟨rfl, Below.refl _ _⟩
theorem put_over (W : World) (n w : Nat) (h1 : 1 ≤ w) (h8 : w < 8) (hw : ¬ n / 2 ^ (8 * w) = 0) :
    Calls Try.prog 16 #[.int .u64 (n : Nat), .int .i64 (w : Nat)] W fun e w' => e = .returned (.tuple #[.string ByteArray.empty, .int .i64 2]) ∧ Below W.heap.size W w' := by
  have t1 : (((n : Nat) : Int) / (2 : Int) ^ (8 * w) != 0) = true := by
    rw [shr_nat]
    simp only [bne_iff_ne]
    omega
  clear hw
  go_enter Try.func16, Try.ntmps16
  go_wp2
  go_ret2
  exact ⟨rfl, Below.refl _ _⟩
/-- octet.Put -/
theorem put_t (W : World) (n : Nat) (w : Int) :
    Calls Try.prog 16 #[.int .u64 (n : Nat), .int .i64 w] W fun e w' => e = .returned (.tuple #[.string (putS n w), .int .i64 (putE n w)]) ∧ Below W.heap.size W w' := by
  by_cases hr : 1 ≤ w ∧ w ≤ 8
  · obtain ⟨k, rfl⟩ : ∃ k : Nat, w = (k : Int) := ⟨w.toNat, by omega⟩
    by_cases hz : k = 8 ∨ k < 8 ∧ n / 2 ^ (8 * k) = 0
    · have hp : putOk n (k : Int) = true := by
        simp only [putOk, Bool.and_eq_true, Bool.or_eq_true, decide_eq_true_eq, Int.toNat_natCast]
        refine ⟨⟨hr.1, hr.2⟩, ?_⟩
        rcases hz with h | h
        · left; omega
        · right; exact h.2
      simp only [putS, putE, hp, if_true, Int.toNat_natCast]
      exact put_ok W n k (by omega) (by omega) hz
    · have hp : putOk n (k : Int) = false := by
        simp only [putOk, Bool.and_eq_false_iff, Bool.or_eq_false_iff, decide_eq_false_iff_not, Int.toNat_natCast]
        right
        exact ⟨by omega, fun h => hz (.inr ⟨by omega, h⟩)⟩
      simp only [putS, putE, hp, Bool.false_eq_true, if_false]
      exact put_over W n k (by omega) (by omega) (fun h => hz (.inr ⟨by omega, h⟩))
  · have hp : putOk n w = false := by
      simp only [putOk, Bool.and_eq_false_iff, decide_eq_false_iff_not]
      left; omega
    simp only [putS, putE, hp, Bool.false_eq_true, if_false]
    exact put_wide W n w (by omega)
end Go.Proofs.Ytooakkelinaelaa
