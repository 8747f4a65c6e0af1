/- octet.Add. -/
import Derived.Test.YtooakkelinaelaaW8
namespace Go.Proofs.Ytooakkelinaelaa
open Go.RowKit
attribute [local go_sem] setCell_drewN alloc_drewN
theorem and255 (b : UInt8) : bits .and .u64 ((b.toNat : Nat) : Int) 255 = ((b.toNat : Nat) : Int) := by
  have h1 := u64_and_nat b.toNat 255 (by have := b.toNat_lt; omega) (by decide)
  have h2 : b.toNat &&& 255 = b.toNat := by
    have := Nat.and_two_pow_sub_one_eq_mod b.toNat 8
    have h := b.toNat_lt
    simp at this
    omega
  rw [h2] at h1
  exact h1
theorem or56 (x : Nat) (h : x < 72057594037927936) : bits .or .u64 ((x : Nat) : Int) 72057594037927936 = ((x + 72057594037927936 : Nat) : Int) := by
  have h1 := u64_or_nat x 72057594037927936 (by omega) (by decide)
  have h2 := Nat.shiftLeft_add_eq_or_of_lt (i := 56) (b := x) (by simpa using h) 1
  rw [Nat.shiftLeft_eq] at h2
  have h3 : x ||| 72057594037927936 = x + 72057594037927936 := by
    rw [Nat.or_comm, Nat.add_comm]
    exact h2.symm
  rw [h3] at h1
  exact h1
attribute [local go_sem] b64_byte and255
set_option maxRecDepth 100000 in
set_option maxHeartbeats 400000 in
theorem add_t (W : World) (s : ByteArray) (n : Nat) (hn : n < 18446744073709551616) (hs : s.size ≤ 140737488351232) :
    Calls Try.prog 12 #[.string s, .int .u64 (n : Nat)] W fun e w' => e = .returned (.string (addS s n)) ∧ Below W.heap.size W w' := by
  obtain ⟨cap, r, hcv, hbk⟩ := run_bytes W s
  have HBK := Lib.hid hbk
  clear hbk
  go_enter Try.func12, Try.ntmps12
  go_wp2
  clear hcv
  go_loopw [1, 6] (fun m i wr => ∃ k : Nat, k ≤ s.size ∧ i = .int .i64 ((s.size : Int) - 1 - (k : Int)) ∧ m = .int .u64 ((cr s n k : Nat) : Int) ∧ BlkF wr W.heap.size (u8s (adr s n k ++ zeros r)) ∧ Below W.heap.size W wr) (fun _ i _ => (intOf i + 1).toNat)
  case atStart => exact ⟨0, by omega, by simp, rfl, by rw [adr_zero]; exact HBK.out, below_bw W s⟩
  case round =>
    obtain ⟨k, hk, rfl, rfl, hb, hbl⟩ := hrel
    have HB := Lib.hid hb; have HL := Lib.hid hbl
    clear hb hbl
    by_cases hlt : k < s.size
    · obtain ⟨d, hd⟩ : ∃ d, d = s.size - 1 - k := ⟨_, rfl⟩
      have hdk : d + 1 + k = s.size := by omega
      have t0 : (s.size : Int) - 1 - (k : Int) = (d : Int) := by omega
      by_cases hz : cr s n k = 0
      · have hst := (adr_stop s n k hz (s.size - k) (by omega)).1
        rw [Nat.sub_add_cancel hk, adr_all] at hst
        have hb := HB.out
        rw [← hst] at hb
        have hconv := run_conv_part (P := Try.prog) wr W.heap.size s.size cap (ta s n s.size) (zeros r) 5 _ 44 9 5 Try.underlying44 Try.underlying5 Try.underlying9 hb (ta_length s n s.size)
        have t1 : decide (0 < cr s n k) = false := decide_eq_false (by omega)
        clear hb hst hz hd hdk
        go_wp2
        go_ret
        exact ⟨rfl, HL.out⟩
      · have t1 : decide (0 < cr s n k) = true := decide_eq_true (by omega)
        have hcl := cr_lt s n k hn
        have hd1 : cr s n (k + 1) = (cr s n k + (byteAt s d).toNat) / 256 := by rw [hd, cr]
        have hset := adr_set s n k d (zeros r) hdk
        have hat := adr_at s n k d (zeros r) hdk
        have hlen : d < (adr s n k ++ zeros r).length := by rw [List.length_append, adr_length s n k hk]; omega
        have hb255 := (byteAt s d).toNat_lt
        obtain ⟨N, hN⟩ : ∃ N, N = cr s n k := ⟨_, rfl⟩
        obtain ⟨b, hb⟩ : ∃ b, b = byteAt s d := ⟨_, rfl⟩
        obtain ⟨c, hc⟩ : ∃ c, c = UInt8.ofNat (cr s n k + (byteAt s d).toNat) := ⟨_, rfl⟩
        have hcn : c.toNat = (N + b.toNat) % 256 := by rw [hc, UInt8.toNat_ofNat', hN, hb]
        have t4 := HB.out.cell d
        rw [u8s_get _ d hlen, hat, ← hb] at t4
        have t5 := HB.out.frozen d (by rw [u8s_size]; exact hlen)
        rw [← hN, ← hb] at hd1
        rw [← hb] at hb255
        rw [← hN] at t1 hcl hz ⊢
        rw [← hc] at hset
        have HSET := Lib.hid hset; have HD1 := Lib.hid hd1; have HCN := Lib.hid hcn; have HDK := Lib.hid hdk; have HN := Lib.hid hN; have HZ := Lib.hid hz
        clear hset hd1 hcn hdk hN hat hlen hb hc hz hd
        by_cases ho : N + b.toNat < 18446744073709551616
        · have t2 : IntKind.u64.wrap ((N : Int) + ((b.toNat : Nat) : Int)) = ((N + b.toNat : Nat) : Int) := by
            rw [IntKind.wrap_u64, Int.emod_eq_of_lt] <;> omega
          obtain ⟨M, hM⟩ : ∃ M, M = N + b.toNat := ⟨_, rfl⟩
          rw [← hM] at t2 ho
          obtain ⟨D, hD⟩ : ∃ D, D = M / 256 := ⟨_, rfl⟩
          have t6 : ((b.toNat : Nat) : Int) ≤ (M : Int) := by omega
          have t7 : ((M : Nat) : Int) % 256 = ((c.toNat : Nat) : Int) := by rw [HCN.out, ← hM]; rfl
          have t8 : IntKind.u8.wrap ((M : Nat) : Int) = ((c.toNat : Nat) : Int) := by rw [IntKind.wrap_u8, t7]
          have t9 : ((M : Nat) : Int) / 256 = ((D : Nat) : Int) := by rw [hD]; rfl
          have HM := Lib.hid hM; have HD := Lib.hid hD
          clear hM hD
          go_wp2
          refine ⟨⟨k + 1, by omega, by simp only [Value.int.injEq, true_and]; omega, by rw [HD1.out, ← HM.out, HD.out], ?_, HL.out.setCell (p := ⟨W.heap.size, d, none⟩) (Nat.le_refl _) _⟩, by simp only [intOf]; omega⟩
          have h9 := HB.out.set_ d (.int .u8 ((c.toNat : Nat) : Int))
          rw [u8s_set, HSET.out] at h9
          exact h9
        · obtain ⟨M, hM⟩ : ∃ M, M + 18446744073709551616 = N + b.toNat := ⟨N + b.toNat - 18446744073709551616, by omega⟩
          have t2 : IntKind.u64.wrap ((N : Int) + ((b.toNat : Nat) : Int)) = ((M : Nat) : Int) := by
            rw [IntKind.wrap_u64]; omega
          have t6 : (M : Int) < ((b.toNat : Nat) : Int) := by omega
          have hm : M < 256 := by omega
          have hd1 : cr s n (k + 1) = 72057594037927936 := by rw [HD1.out]; omega
          have t7 : ((M : Nat) : Int) % 256 = ((c.toNat : Nat) : Int) := by have := HCN.out; omega
          have t8 : IntKind.u8.wrap ((M : Nat) : Int) = ((c.toNat : Nat) : Int) := by rw [IntKind.wrap_u8, t7]
          have t9 : ((M : Nat) : Int) / 256 = 0 := by omega
          have t10 : bits .or .u64 0 72057594037927936 = 72057594037927936 := or56 0 (by decide)
          have HM := Lib.hid hM; have HD2 := Lib.hid hd1
          clear hM hd1 ho
          go_wp2
          refine ⟨⟨k + 1, by omega, by simp only [Value.int.injEq, true_and]; omega, by rw [HD2.out]; rfl, ?_, HL.out.setCell (p := ⟨W.heap.size, d, none⟩) (Nat.le_refl _) _⟩, by simp only [intOf]; omega⟩
          have h9 := HB.out.set_ d (.int .u8 ((c.toNat : Nat) : Int))
          rw [u8s_set, HSET.out] at h9
          exact h9
    · obtain rfl : k = s.size := by omega
      have hb := HB.out
      rw [adr_all] at hb
      have hconv := run_conv_part (P := Try.prog) wr W.heap.size s.size cap (ta s n s.size) (zeros r) 5 _ 44 9 5 Try.underlying44 Try.underlying5 Try.underlying9 hb (ta_length s n s.size)
      clear hb
      go_wp2
      go_ret
      exact ⟨rfl, HL.out⟩
end Go.Proofs.Ytooakkelinaelaa
