/- Sum AT EVERY INPUT, THE REFERENCE S Sum, AND THE LAW GhashSums. -/
import Derived.Test.YtcbhnfljpbnipaaDoorL4
import Derived.Test.YtcbhnfljpbnipaaDoorL3
namespace Go.Proofs.YtcbhnfljpbnipaaDoor
open Go.RowKit
attribute [local go_sem] setCell_drewN alloc_drewN
/-- the two refusals, of the program and of the reference alike -/
theorem sum_badkey (w : World) (key s : ByteArray) (h : ¬ key.size = 16) :
    Calls Tryd.prog 12 #[.string key, .string s] w fun e w' => e = .returned (.tuple #[.string ⟨#[]⟩, .int .i64 3]) ∧ Below w.heap.size w w' := by
  have t1 : ((key.size : Int) != 16) = true := by simp; omega
  clear h
  go_enter Tryd.func12, Tryd.ntmps12
  go_wp2_with fail
  go_ret2
  exact ⟨rfl, Below.refl _ _⟩
theorem sum_badsize (w : World) (key s : ByteArray) (h : key.size = 16) (h2 : ¬ (s.size % 16 = 0 ∧ s.size ≤ 210000)) :
    Calls Tryd.prog 12 #[.string key, .string s] w fun e w' => e = .returned (.tuple #[.string ⟨#[]⟩, .int .i64 6]) ∧ Below w.heap.size w w' := by
  have t1 : ((key.size : Int) != 16) = false := by simp [h]
  have hc : ((s.size : Int) % 16 != 0) = true ∨ ((s.size : Int) % 16 != 0) = false ∧ decide ((210000 : Int) < (s.size : Int)) = true := by
    by_cases h3 : s.size % 16 = 0
    · exact .inr ⟨by simp; omega, by simp; omega⟩
    · exact .inl (by simp; omega)
  clear h h2
  rcases hc with t2 | ⟨t2, t3⟩
  all_goals
    go_enter Tryd.func12, Tryd.ntmps12
    go_wp2_with fail
    go_ret2
    exact ⟨rfl, Below.refl _ _⟩
theorem rsum_badkey (w : World) (key s : ByteArray) (h : ¬ key.size = 16) :
    Calls Tryd.prog 13 #[.string key, .string s] w fun e w' => e = .returned (.tuple #[.string ⟨#[]⟩, .int .i64 3]) ∧ Below w.heap.size w w' := by
  have t1 : ((key.size : Int) != 16) = true := by simp; omega
  clear h
  go_enter Tryd.func13, Tryd.ntmps13
  go_wp2_with fail
  go_ret2
  exact ⟨rfl, Below.refl _ _⟩
theorem rsum_badsize (w : World) (key s : ByteArray) (h : key.size = 16) (h2 : ¬ (s.size % 16 = 0 ∧ s.size ≤ 210000)) :
    Calls Tryd.prog 13 #[.string key, .string s] w fun e w' => e = .returned (.tuple #[.string ⟨#[]⟩, .int .i64 6]) ∧ Below w.heap.size w w' := by
  have t1 : ((key.size : Int) != 16) = false := by simp [h]
  have hc : ((s.size : Int) % 16 != 0) = true ∨ ((s.size : Int) % 16 != 0) = false ∧ decide ((210000 : Int) < (s.size : Int)) = true := by
    by_cases h3 : s.size % 16 = 0
    · exact .inr ⟨by simp; omega, by simp; omega⟩
    · exact .inl (by simp; omega)
  clear h h2
  rcases hc with t2 | ⟨t2, t3⟩
  all_goals
    go_enter Tryd.func13, Tryd.ntmps13
    go_wp2_with fail
    go_ret2
    exact ⟨rfl, Below.refl _ _⟩
def z16 : List UInt8 := List.replicate 16 0
theorem st_zero : (⟨z16.toArray⟩ : ByteArray) = stB (0#64, 0#64) := by decide +kernel
set_option maxRecDepth 100000 in
set_option maxHeartbeats 1000000 in
theorem rsum_ok (w : World) (key s : ByteArray) (n : Nat) (hk : key.size = 16) (hs : s.size = 16 * n) (hn : n ≤ 13125) :
    Calls Tryd.prog 13 #[.string key, .string s] w fun e w' => e = .returned (.tuple #[.string (stB (sumTo key s n)), .int .i64 0]) ∧ Below w.heap.size w w' := by
  have t1 : ((key.size : Int) != 16) = false := by simp [hk]
  have t2 : ((s.size : Int) % 16 != 0) = false := by simp [hs]
  have t3 : decide ((210000 : Int) < (s.size : Int)) = false := by simp [hs]; omega
  have hmk : ∀ w, (Instr.makeSlice 44 (.int .i64 16) (.int .i64 16)).run Tryd.prog w = .ok (.slice (some ⟨w.heap.size, 0, none⟩) 16 16) (w.alloc (.cells (u8s z16) 5)) := fun _ => by kernel_rfl
  have hconv := run_conv_row (P := Tryd.prog) (w.alloc (.cells (u8s z16) 5)) w.heap.size 16 16 z16 5 (0, 0) 44 9 5 Tryd.underlying44 Tryd.underlying5 Tryd.underlying9 (heap_alloc_last w _) rfl
  have HK := Lib.hid hk; have HS := Lib.hid hs
  clear hk hs
  rw [st_zero] at hconv
  go_enter Tryd.func13, Tryd.ntmps13
  go_wp2_with fail
  clear hmk hconv
  go_loopw [6, 7] (fun o t wr => ∃ k : Nat, k ≤ n ∧ t = .int .i64 ((16 * k : Nat) : Int) ∧ o = .string (stB (sumTo key s k)) ∧ Below w.heap.size w wr) (fun _ t _ => 16 * n - (intOf t).toNat)
  case atStart => exact ⟨0, by omega, rfl, rfl, (Below.refl _ _).alloc (Nat.le_refl _) _⟩
  case round =>
    obtain ⟨k, hk, rfl, rfl, hb⟩ := hrel
    obtain ⟨o, ho⟩ : ∃ o, o = stB (sumTo key s k) := ⟨_, rfl⟩
    have ho16 : o.size = 16 := by rw [ho, stB_size]
    rw [← ho]
    have HB := Lib.hid hb; have HO := Lib.hid ho; have HO16 := Lib.hid ho16
    clear hb ho ho16
    by_cases hlt : k < n
    · have g1 : 16 * k + 16 ≤ s.size := by have := HS.out; omega
      have hbs := blkOf_size s k g1
      obtain ⟨x, hx⟩ : ∃ x, x = blkOf s k := ⟨_, rfl⟩
      have HX := Lib.hid hx; have HBS := Lib.hid hbs
      clear hx hbs
      have t4 : decide (16 * (k : Int) < (s.size : Int)) = true := by simp; omega
      go_wp2_with fail
      rw [show s.extract (16 * k) (16 * k + 16) = x from HX.out.symm]
      have hx16 : x.size = 16 := by rw [HX.out]; exact HBS.out
      refine (xor_t _ o x (by rw [HO16.out]; omega) (by rw [hx16]; omega)).mono ?_
      rintro e v1 ⟨rfl, hb1⟩
      have hy : mulS ⟨(xorL o x).toArray⟩ key = stB (sumTo key s (k + 1)) := by
        rw [mulS_ok _ _ (by show (xorL o x).toArray.size = 16; simpa using xorL_length o x HO16.out hx16) HK.out, ld_xor o x HO16.out hx16, HO.out, ld_st, HX.out]
        rfl
      have HB1 := Lib.hid (HB.out.trans (hb1.mono HB.out.size)); have HY := Lib.hid hy
      clear hb1 hy hx16
      obtain ⟨y, hy⟩ : ∃ y : ByteArray, y = ⟨(xorL o x).toArray⟩ := ⟨_, rfl⟩
      rw [← hy] at HY ⊢
      clear hy
      go_wp2_with fail
      refine (rmul_t _ y key).mono ?_
      rintro e v2 ⟨rfl, hb2⟩
      have HB2 := Lib.hid (HB1.out.trans (hb2.mono HB1.out.size)); clear hb2
      go_wp2_with fail
      refine ⟨⟨k + 1, by omega, ?_, by rw [HY.out], HB2.out⟩, ?_⟩
      · rw [show ((16 * (k + 1) : Nat) : Int) = 16 * (k : Int) + 16 from by omega]
      · simp only [intOf]; omega
    · obtain rfl : k = n := by omega
      have t4 : decide (16 * (k : Int) < (s.size : Int)) = false := by have := HS.out; simp; omega
      have t5 : (s.size : Int) ≤ 16 * (k : Int) := by have := HS.out; omega
      go_wp2_with fail
      go_ret2
      exact ⟨by rw [HO.out]; rfl, HB.out⟩
/-- what Sum answers -/
def sumS (key s : ByteArray) : ByteArray := if key.size = 16 ∧ s.size % 16 = 0 ∧ s.size ≤ 210000 then stB (sumTo key s (s.size / 16)) else ⟨#[]⟩
def sumN (key s : ByteArray) : Int := if ¬ key.size = 16 then 3 else if s.size % 16 = 0 ∧ s.size ≤ 210000 then 0 else 6
theorem sum_t (w : World) (key s : ByteArray) (hF : FoldAt w) :
    Calls Tryd.prog 12 #[.string key, .string s] w fun e w' => e = .returned (.tuple #[.string (sumS key s), .int .i64 (sumN key s)]) ∧ Below w.heap.size w w' := by
  by_cases h : key.size = 16
  · by_cases h2 : s.size % 16 = 0 ∧ s.size ≤ 210000
    · refine (sum_ok w key s (s.size / 16) h (by omega) (by omega) hF).mono ?_
      rintro e w' ⟨rfl, hb⟩
      exact ⟨by rw [sumS, sumN, if_pos ⟨h, h2⟩, if_neg (fun hn => hn h), if_pos h2], hb⟩
    · refine (sum_badsize w key s h h2).mono ?_
      rintro e w' ⟨rfl, hb⟩
      exact ⟨by rw [sumS, sumN, if_neg (fun hn => h2 hn.2), if_neg (fun hn => hn h), if_neg h2], hb⟩
  · refine (sum_badkey w key s h).mono ?_
    rintro e w' ⟨rfl, hb⟩
    exact ⟨by rw [sumS, sumN, if_neg (fun hn => h hn.1), if_pos h], hb⟩
theorem rsum_t (w : World) (key s : ByteArray) :
    Calls Tryd.prog 13 #[.string key, .string s] w fun e w' => e = .returned (.tuple #[.string (sumS key s), .int .i64 (sumN key s)]) ∧ Below w.heap.size w w' := by
  by_cases h : key.size = 16
  · by_cases h2 : s.size % 16 = 0 ∧ s.size ≤ 210000
    · refine (rsum_ok w key s (s.size / 16) h (by omega) (by omega)).mono ?_
      rintro e w' ⟨rfl, hb⟩
      exact ⟨by rw [sumS, sumN, if_pos ⟨h, h2⟩, if_neg (fun hn => hn h), if_pos h2], hb⟩
    · refine (rsum_badsize w key s h h2).mono ?_
      rintro e w' ⟨rfl, hb⟩
      exact ⟨by rw [sumS, sumN, if_neg (fun hn => h2 hn.2), if_neg (fun hn => hn h), if_neg h2], hb⟩
  · refine (rsum_badkey w key s h).mono ?_
    rintro e w' ⟨rfl, hb⟩
    exact ⟨by rw [sumS, sumN, if_neg (fun hn => h hn.1), if_pos h], hb⟩
/-- THE LAW GhashSums. -/
theorem sums_t (w : World) (key s : ByteArray) (hF : FoldAt w) :
    Calls Tryd.prog 5 #[.string key, .string s] w fun e w' => e = .returned (.bool true) ∧ Below w.heap.size w w' := by
  have HF := Lib.hid hF
  clear hF
  have hc : (decide ((1000 : Int) < (s.size : Int)) = true ∧ ((s.size : Int) % 16 == 0) = true ∧ decide ((s.size : Int) ≤ 210000) = true) ∨
      decide ((1000 : Int) < (s.size : Int)) = false ∨ (decide ((1000 : Int) < (s.size : Int)) = true ∧ ((s.size : Int) % 16 == 0) = false) ∨
      (decide ((1000 : Int) < (s.size : Int)) = true ∧ ((s.size : Int) % 16 == 0) = true ∧ decide ((s.size : Int) ≤ 210000) = false) := by
    cases decide ((1000 : Int) < (s.size : Int)) <;> cases ((s.size : Int) % 16 == 0) <;> cases decide ((s.size : Int) ≤ 210000) <;> simp
  rcases hc with ⟨t1, t2, t3⟩ | t1 | ⟨t1, t2⟩ | ⟨t1, t2, t3⟩
  · go_enter Tryd.func5, Tryd.ntmps5
    go_wp2_with fail
    refine (wakes_t _ HF.out).mono ?_
    rintro e w1 ⟨rfl, hb1⟩
    have HB1 := Lib.hid hb1; clear hb1
    go_wp2_with fail
    go_ret
    exact ⟨rfl, HB1.out⟩
  all_goals
    go_enter Tryd.func5, Tryd.ntmps5
    go_wp2_with fail
    refine (wakes_t _ HF.out).mono ?_
    rintro e w1 ⟨rfl, hb1⟩
    have HF1 := Lib.hid (HF.out.below hb1 HF.out.pos)
    have HB1 := Lib.hid hb1; clear hb1
    go_wp2_with fail
    refine (sum_t _ key s HF1.out).mono ?_
    rintro e w2 ⟨rfl, hb2⟩
    have HB2 := Lib.hid (HB1.out.trans (hb2.mono HB1.out.size)); clear hb2
    go_wp2_with fail
    refine (rsum_t _ key s).mono ?_
    rintro e w3 ⟨rfl, hb3⟩
    have HB3 := Lib.hid (HB2.out.trans (hb3.mono HB2.out.size)); clear hb3
    go_wp2_with fail
    go_ret
    exact ⟨rfl, HB3.out⟩
end Go.Proofs.YtcbhnfljpbnipaaDoor
