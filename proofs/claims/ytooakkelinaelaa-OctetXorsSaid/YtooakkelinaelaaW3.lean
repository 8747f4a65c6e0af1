/- octet.Xor. -/
import Derived.Test.YtooakkelinaelaaW2
import Derived.Test.YtooakkelinaelaaPs
import Derived.BigRegion
import Derived.Deep.OwnRows
namespace Go.Proofs.Ytooakkelinaelaa
open Go.RowKit
attribute [local go_sem] setCell_drewN alloc_drewN byte_xor
theorem made_zeros (n : Nat) : madeCells #[Value.int .u8 0] n = u8s (zeros n) := by
  apply Array.ext_getElem?
  intro i
  unfold madeCells u8s zeros
  by_cases h : i < n
  · simp [h, Nat.mod_one]
  · simp [h]
/-- make([]byte, n) -/
theorem make_bytes (n : Nat) (hn : n ≤ 140737488355328) (w : World) : (Instr.makeSlice 44 (.int .i64 (n : Int)) (.int .i64 (n : Int))).run Try.prog w = .ok (.slice (some ⟨w.heap.size, 0, none⟩) n n) (w.alloc (.cells (u8s (zeros n)) 5)) := by
  rw [← made_zeros]
  exact run_make_row' (P := Try.prog) 44 5 (.int .u8 0) 1 Try.underlying44 info5 rfl .i64 .i64 n (by omega) (by omega) w
def xf (a b : ByteArray) (i : Nat) : UInt8 := byteAt a i ^^^ byteAt b i
set_option maxRecDepth 100000 in
set_option maxHeartbeats 400000 in
theorem xor_core (w : World) (a b : ByteArray) (m : Nat) (ha : m ≤ a.size) (hb : m ≤ b.size) (hm : b.size < a.size ∧ (b.size : Int) = (m : Int) ∨ ¬ b.size < a.size ∧ (a.size : Int) = (m : Int)) (hmx : m ≤ 140737488351232) :
    Calls Try.prog 9 #[.string a, .string b] w fun e w' => e = .returned (.string ⟨(fill (xf a b) (zeros m) m).toArray⟩) ∧ Below w.heap.size w w' := by
  have hmk := make_bytes m (by omega)
  have hl : ∀ k, (fill (xf a b) (zeros m) k).length = m := fun k => by rw [fill_length, zeros_length]
  have HL := Lib.hid hl
  clear hl
  rcases hm with ⟨m1, m2⟩ | ⟨m1, m2⟩
  all_goals
    go_enter Try.func9, Try.ntmps9
    go_wp2
    clear hmk
    go_loopw [15] (fun i wr => ∃ k : Nat, k ≤ m ∧ i = .int .i64 k ∧ ∃ q, wr = (w.alloc (.cells (u8s (fill (xf a b) (zeros m) k)) 5)).drewN q) (fun i _ => m - (intOf i).toNat)
    case atStart => exact ⟨0, by omega, rfl, 0, rfl⟩
    case round =>
      obtain ⟨k, hk, rfl, q, rfl⟩ := hrel
      by_cases hlt : k < m
      · have g1 : k < a.size := by omega
        have g2 : k < b.size := by omega
        have c1 := u8s_get (fill (xf a b) (zeros m) k) k (by rw [HL.out]; exact hlt)
        go_wp2
        go_region
        go_wp2
        go_roundw
        case rel => exact ⟨k + 1, by omega, by go_num, q + 1, by rw [← UInt8.toNat_xor, byteAt_get a k g1, byteAt_get b k g2, u8s_set]; rfl⟩
        case measure => simp [intOf]; omega
      · obtain rfl : k = m := by omega
        have hconv := run_conv_row (P := Try.prog) ((w.alloc (.cells (u8s (fill (xf a b) (zeros k) k)) 5)).drewN q) w.heap.size k k (fill (xf a b) (zeros k) k) 5 (0, 0) 44 9 5 Try.underlying44 Try.underlying5 Try.underlying9 (heap_alloc_last w _) (HL.out k)
        go_wp2
        go_ret
        exact ⟨rfl, below_drewN ((Below.refl _ _).alloc (Nat.le_refl _) _) _⟩
theorem fill_xor (a b : ByteArray) (m : Nat) (hm : m = min a.size b.size) : fill (xf a b) (zeros m) m = xorL a b := by
  have h := fill_all (xf a b) (zeros m)
  rw [zeros_length] at h
  rw [h]
  apply List.ext_getElem?
  intro i
  have ha : a.data.toList.length = a.size := by simp
  have hb : b.data.toList.length = b.size := by simp
  unfold xorL
  rw [List.getElem?_map]
  by_cases hi : i < m
  · rw [List.getElem?_range hi, List.getElem?_zipWith, List.getElem?_eq_getElem (by omega), List.getElem?_eq_getElem (by omega)]
    show some (xf a b i) = some _
    unfold xf byteAt
    rw [List.getElem?_eq_getElem (by omega), List.getElem?_eq_getElem (by omega)]; rfl
  · rw [List.getElem?_eq_none (by simpa using hi), List.getElem?_eq_none (by rw [List.length_zipWith]; omega)]; rfl
/-- octet.Xor -/
theorem xor_t (w : World) (a b : ByteArray) (ha : a.size ≤ 140737488351232) :
    Calls Try.prog 9 #[.string a, .string b] w fun e w' => e = .returned (.string ⟨(xorL a b).toArray⟩) ∧ Below w.heap.size w w' := by
  obtain ⟨m, hm⟩ : ∃ m, m = min a.size b.size := ⟨_, rfl⟩
  rw [← fill_xor a b m hm]
  exact xor_core w a b m (by omega) (by omega) (by omega) (by omega)
end Go.Proofs.Ytooakkelinaelaa
