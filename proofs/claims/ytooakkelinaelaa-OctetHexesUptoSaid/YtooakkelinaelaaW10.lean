/- pyxisref01.Add. -/
import Derived.Test.YtooakkelinaelaaW8
namespace Go.Proofs.Ytooakkelinaelaa
open Go.RowKit
attribute [local go_sem] setCell_drewN alloc_drewN b64_byte
set_option maxRecDepth 100000 in
set_option maxHeartbeats 400000 in
theorem radd_t (W : World) (s : ByteArray) (n : Nat) (hn : n < 18446744073709551616) (hs : s.size ≤ 140737488351232) :
    Calls Try.prog 13 #[.string s, .int .u64 (n : Nat)] W fun e w' => e = .returned (.string (addS s n)) ∧ Below W.heap.size W w' := by
  obtain ⟨cap, r, hcv, hbk⟩ := run_bytes W s
  have HBK := Lib.hid hbk
  clear hbk
  go_enter Try.func13, Try.ntmps13
  go_wp2
  clear hcv
  go_loopw [1, 6, 7, 8] (fun m cy i _ wr => ∃ k a c : Nat, k ≤ s.size ∧ i = .int .i64 ((s.size : Int) - 1 - (k : Int)) ∧ m = .int .u64 (a : Int) ∧ cy = .int .i64 (c : Int) ∧ a < 18446744073709551616 ∧ c < 256 ∧ a + c = cr s n k ∧ BlkF wr W.heap.size (u8s (adr s n k ++ zeros r)) ∧ Below W.heap.size W wr) (fun _ _ i _ _ => (intOf i + 1).toNat)
  case atStart => exact ⟨0, n, 0, by omega, by simp, rfl, rfl, hn, by decide, rfl, by rw [adr_zero]; exact HBK.out, below_bw W s⟩
  case round =>
    obtain ⟨k, a, cy, hk, rfl, rfl, rfl, ha, hcy, hac, hb, hbl⟩ := hrel
    have HB := Lib.hid hb; have HL := Lib.hid hbl
    clear hb hbl
    by_cases hlt : k < s.size
    · obtain ⟨d, hd⟩ : ∃ d, d = s.size - 1 - k := ⟨_, rfl⟩
      have hdk : d + 1 + k = s.size := by omega
      have t0 : (s.size : Int) - 1 - (k : Int) = (d : Int) := by omega
      have hd1 : cr s n (k + 1) = (cr s n k + (byteAt s d).toNat) / 256 := by rw [hd, cr]
      have hset := adr_set s n k d (zeros r) hdk
      have hat := adr_at s n k d (zeros r) hdk
      have hlen : d < (adr s n k ++ zeros r).length := by rw [List.length_append, adr_length s n k hk]; omega
      have hb255 := (byteAt s d).toNat_lt
      obtain ⟨b, hb⟩ : ∃ b, b = byteAt s d := ⟨_, rfl⟩
      obtain ⟨c, hc⟩ : ∃ c, c = UInt8.ofNat (cr s n k + (byteAt s d).toNat) := ⟨_, rfl⟩
      have hcn : c.toNat = (a + cy + b.toNat) % 256 := by rw [hc, UInt8.toNat_ofNat', hac, hb]
      have t4 := HB.out.cell d
      rw [u8s_get _ d hlen, hat, ← hb] at t4
      have t5 := HB.out.frozen d (by rw [u8s_size]; exact hlen)
      rw [← hac, ← hb] at hd1
      rw [← hb] at hb255
      rw [← hc] at hset
      obtain ⟨A1, hA1⟩ : ∃ x, x = a / 256 := ⟨_, rfl⟩
      obtain ⟨A0, hA0⟩ : ∃ x, x = a % 256 := ⟨_, rfl⟩
      obtain ⟨S, hS⟩ : ∃ x, x = b.toNat + A0 + cy := ⟨_, rfl⟩
      obtain ⟨S1, hS1⟩ : ∃ x, x = S / 256 := ⟨_, rfl⟩
      have f1 : ((a : Nat) : Int) % 256 = (A0 : Int) := by omega
      have f2 : ((a : Nat) : Int) / 256 = (A1 : Int) := by omega
      have f3 : ((b.toNat : Nat) : Int) + (A0 : Int) + (cy : Int) = (S : Int) := by omega
      have f4 : ((S : Nat) : Int) % 256 = ((c.toNat : Nat) : Int) := by omega
      have f5 : ((S : Nat) : Int) / 256 = (S1 : Int) := by omega
      have f6 : A0 < 256 := by omega
      have f7 : S < 1024 := by omega
      have f8 : A1 < 18446744073709551616 := by omega
      have f9 : S1 < 256 := by omega
      have f10 : A1 + S1 = cr s n (k + 1) := by omega
      have HSET := Lib.hid hset; have HDK := Lib.hid hdk; have H10 := Lib.hid f10
      clear hset hd1 hcn hdk hat hlen hb hc hd hac hA1 hA0 hS hS1 f10
      go_wp2
      refine ⟨⟨k + 1, A1, S1, by omega, by simp only [Value.int.injEq, true_and]; omega, rfl, rfl, f8, f9, H10.out, ?_, HL.out.setCell (p := ⟨W.heap.size, d, none⟩) (Nat.le_refl _) _⟩, by simp only [intOf]; omega⟩
      have h9 := HB.out.set_ d (.int .u8 ((c.toNat : Nat) : Int))
      rw [u8s_set, HSET.out] at h9
      exact h9
    · obtain rfl : k = s.size := by omega
      have hb := HB.out
      rw [adr_all] at hb
      have hconv := run_conv_part (P := Try.prog) wr W.heap.size s.size cap (ta s n s.size) (zeros r) 5 _ 44 9 5 Try.underlying44 Try.underlying5 Try.underlying9 hb (ta_length s n s.size)
      clear hb
      go_wp2
      go_ret
      exact ⟨rfl, HL.out⟩
end Go.Proofs.Ytooakkelinaelaa
