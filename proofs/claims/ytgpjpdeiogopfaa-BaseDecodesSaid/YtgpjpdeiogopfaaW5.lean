/- pyxisref14.sign and number. -/
import Derived.Test.YtgpjpdeiogopfaaW4
namespace Go.Proofs.Ytgpjpdeiogopfaa
open Go.RowKit
attribute [local go_sem] setCell_drewN alloc_drewN b64_byte
theorem sign_t (n : Nat) (h : n < 64) (w : World) :
    Calls Try.prog 14 #[.int .i64 (n : Int)] w fun e w' => e = .returned (.int .u8 (((sgn n).toNat : Nat) : Int)) ∧ w' = w := by
  obtain ⟨b, hb⟩ : ∃ b, b = (sgn n).toNat := ⟨_, rfl⟩
  rw [← hb]
  have hc : n < 26 ∧ b = 65 + n ∨ 26 ≤ n ∧ (n < 52 ∧ b = 71 + n ∨ 52 ≤ n ∧ (n < 62 ∧ b = n - 4 ∨ 62 ≤ n ∧ (n = 62 ∧ b = 45 ∨ n = 63 ∧ b = 95))) := by
    have hall : ∀ m : Fin 64, m.val < 26 ∧ (sgn m.val).toNat = 65 + m.val ∨ 26 ≤ m.val ∧ (m.val < 52 ∧ (sgn m.val).toNat = 71 + m.val ∨ 52 ≤ m.val ∧ (m.val < 62 ∧ (sgn m.val).toNat = m.val - 4 ∨ 62 ≤ m.val ∧ (m.val = 62 ∧ (sgn m.val).toNat = 45 ∨ m.val = 63 ∧ (sgn m.val).toNat = 95))) := by decide +kernel
    rw [hb]
    exact hall ⟨n, h⟩
  clear hb
  rcases hc with ⟨h1, h2⟩ | ⟨h0, ⟨h1, h2⟩ | ⟨h0, ⟨h1, h2⟩ | ⟨h0, ⟨h1, h2⟩ | ⟨h1, h2⟩⟩⟩⟩
  · have f1 : IntKind.u8.wrap (65 + (n : Int)) = (b : Int) := by rw [IntKind.wrap_u8]; omega
    have f2 : (65 + (n : Int)) % 256 = (b : Int) := by omega
    have H2 := Lib.hid h2; clear h2
    go_enter Try.func14, Try.ntmps14
    go_wp2
    go_ret
    exact ⟨rfl, rfl⟩
  · have f1 : IntKind.u8.wrap (97 + (n : Int) - 26) = (b : Int) := by rw [IntKind.wrap_u8]; omega
    have f2 : (97 + (n : Int) - 26) % 256 = (b : Int) := by omega
    have H2 := Lib.hid h2; clear h2
    go_enter Try.func14, Try.ntmps14
    go_wp2
    go_ret
    exact ⟨rfl, rfl⟩
  · have f1 : IntKind.u8.wrap (48 + (n : Int) - 52) = (b : Int) := by rw [IntKind.wrap_u8]; omega
    have f2 : (48 + (n : Int) - 52) % 256 = (b : Int) := by omega
    have H2 := Lib.hid h2; clear h2
    go_enter Try.func14, Try.ntmps14
    go_wp2
    go_ret
    exact ⟨rfl, rfl⟩
  · subst h1 h2
    go_enter Try.func14, Try.ntmps14
    go_wp2
    go_ret
    exact ⟨rfl, rfl⟩
  · subst h1 h2
    go_enter Try.func14, Try.ntmps14
    go_wp2
    go_ret
    exact ⟨rfl, rfl⟩
theorem number_t (c : UInt8) (W : World) :
    Calls Try.prog 16 #[.int .u8 ((c.toNat : Nat) : Int)] W fun e w' => e = .returned (.int .i64 (if num c < 64 then ((num c : Nat) : Int) else -1)) ∧ w' = W := by
  obtain ⟨R, hR⟩ : ∃ R : Int, R = if num c < 64 then ((num c : Nat) : Int) else -1 := ⟨_, rfl⟩
  rw [← hR]
  have HR := Lib.hid hR
  clear hR
  go_enter Try.func16, Try.ntmps16
  go_wp2
  go_loopw [3] (fun i wr => ∃ k : Nat, k ≤ 64 ∧ i = .int .i64 (k : Int) ∧ (∀ i, i < k → sgn i ≠ c) ∧ W = wr) (fun i _ => 64 - (intOf i).toNat)
  case atStart => exact ⟨0, by omega, rfl, fun i hi => by omega, rfl⟩
  case round =>
    obtain ⟨k, hk, rfl, hno, rfl⟩ := hrel
    have HNO := Lib.hid hno
    clear hno
    by_cases hlt : k < 64
    · have g1 : (k : Int) < 64 := by omega
      go_wp2_with fail
      refine (sign_t k hlt _).mono ?_
      rintro e w1 ⟨rfl, rfl⟩
      by_cases heq : sgn k = c
      · have t1 : ((((sgn k).toNat : Nat) : Int) == ((c.toNat : Nat) : Int)) = true := by rw [heq]; simp
        have hR : R = (k : Int) := by
          rw [HR.out, ← heq, num_sgn k hlt, if_pos hlt]
        obtain ⟨y, hy⟩ : ∃ y, y = (sgn k).toNat := ⟨_, rfl⟩
        rw [← hy] at t1 ⊢
        have HY := Lib.hid hy; have HRR := Lib.hid hR
        clear hy heq hR
        go_wp2
        go_ret
        exact ⟨by rw [HRR.out]; rfl, rfl⟩
      · have t1 : ((((sgn k).toNat : Nat) : Int) == ((c.toNat : Nat) : Int)) = false := by
          rw [beq_eq_false_iff_ne]
          intro h
          exact heq (UInt8.toNat_inj.1 (by omega))
        obtain ⟨y, hy⟩ : ∃ y, y = (sgn k).toNat := ⟨_, rfl⟩
        rw [← hy] at t1 ⊢
        have HQ := Lib.hid heq
        have HY := Lib.hid hy
        clear hy heq
        go_wp2
        refine ⟨⟨k + 1, by omega, by go_num, fun i hi => ?_, by first | trivial | rfl⟩, by simp [intOf]; omega⟩
        by_cases hik : i = k
        · rw [hik]; exact HQ.out
        · exact HNO.out i (by omega)
    · obtain rfl : k = 64 := by omega
      have hR : R = -1 := by
        rw [HR.out, if_neg (fun h => HNO.out (num c) h (sgn_num c h))]
      have HRR := Lib.hid hR
      clear hR
      go_wp2
      go_ret
      exact ⟨by rw [HRR.out]; rfl, rfl⟩
end Go.Proofs.Ytgpjpdeiogopfaa
