/- THE LAWS OctetGets, OctetSame, OctetAdds, OctetPuts: each returns true. -/
import Derived.Test.YtooakkelinaelaaW13
import Derived.Test.YtooakkelinaelaaW4
import Derived.Test.YtooakkelinaelaaL1
namespace Go.Proofs.Ytooakkelinaelaa
open Go.RowKit
attribute [local go_sem] setCell_drewN alloc_drewN
theorem gets_t (W : World) (s : ByteArray) (hs : s.size ≤ 9223372036854775807) :
    Calls Try.prog 7 #[.string s] W fun e w' => e = .returned (.bool true) ∧ Below W.heap.size W w' := by
  go_enter Try.func7, Try.ntmps7
  go_wp2_with fail
  refine (get_t W s hs).mono ?_
  rintro e w1 ⟨rfl, hb1⟩
  have HB1 := Lib.hid hb1; clear hb1
  go_wp2_with fail
  refine (rget_t w1 s hs).mono ?_
  rintro e w2 ⟨rfl, hb2⟩
  have HB2 := Lib.hid (HB1.out.trans (hb2.mono HB1.out.size)); clear hb2
  go_wp2_with fail
  refine (wakes_t w2).mono ?_
  rintro e w3 ⟨rfl, hb3⟩
  have HB3 := Lib.hid (HB2.out.trans (hb3.mono HB2.out.size)); clear hb3
  go_wp2_with fail
  go_ret
  exact ⟨rfl, HB3.out⟩
theorem lsame_t (W : World) (a b : ByteArray) (ha : a.size ≤ 9223372036854775807) :
    Calls Try.prog 5 #[.string a, .string b] W fun e w' => e = .returned (.bool true) ∧ Below W.heap.size W w' := by
  go_enter Try.func5, Try.ntmps5
  go_wp2_with fail
  refine (wakes_t W).mono ?_
  rintro e w1 ⟨rfl, hb1⟩
  have HB1 := Lib.hid hb1; clear hb1
  go_wp2_with fail
  refine (same_t w1 a b ha).mono ?_
  rintro e w2 ⟨rfl, hb2⟩
  have HB2 := Lib.hid (HB1.out.trans (hb2.mono HB1.out.size)); clear hb2
  go_wp2_with fail
  refine (rsame_t w2 a b).mono ?_
  rintro e w3 ⟨rfl, rfl⟩
  go_wp2_with fail
  refine (same_t w2 a a ha).mono ?_
  rintro e w4 ⟨rfl, hb4⟩
  have HB4 := Lib.hid (HB2.out.trans (hb4.mono HB2.out.size)); clear hb4
  have e1 : (a.toList == a.toList) = true := by simp
  rw [e1]
  go_wp2_with fail
  go_ret
  exact ⟨rfl, HB4.out⟩
theorem adds_t (W : World) (s : ByteArray) (n m : Nat) (hn : n < 18446744073709551616) (hm : m < 18446744073709551616) (hs : s.size ≤ 140737488351232) :
    Calls Try.prog 4 #[.string s, .int .u64 (n : Nat), .int .u64 (m : Nat)] W fun e w' => e = .returned (.bool true) ∧ Below W.heap.size W w' := by
  have hsz := addS_size s n
  have hsum := addS_sum s n m
  obtain ⟨x, hx⟩ : ∃ x, x = addS s n := ⟨_, rfl⟩
  rw [← hx] at hsz hsum
  have HX := Lib.hid hx; have HSZ := Lib.hid hsz; have HSUM := Lib.hid hsum
  clear hx hsz hsum
  have hc : (4611686018427387904 : Int) < (n : Int) ∨ (n : Int) ≤ 4611686018427387904 ∧ ((4611686018427387904 : Int) < (m : Int) ∨ (m : Int) ≤ 4611686018427387904) := by omega
  rcases hc with t1 | ⟨t1, t2 | t2⟩
  all_goals
    go_enter Try.func4, Try.ntmps4
    go_wp2_with fail
    refine (wakes_t W).mono ?_
    rintro e w1 ⟨rfl, hb1⟩
    have HB1 := Lib.hid hb1; clear hb1
    go_wp2_with fail
    refine (add_t w1 s n hn hs).mono ?_
    rintro e w2 ⟨rfl, hb2⟩
    have HB2 := Lib.hid (HB1.out.trans (hb2.mono HB1.out.size)); clear hb2
    rw [← HX.out]
    go_wp2_with fail
    refine (radd_t w2 s n hn hs).mono ?_
    rintro e w3 ⟨rfl, hb3⟩
    have HB3 := Lib.hid (HB2.out.trans (hb3.mono HB2.out.size)); clear hb3
    rw [← HX.out]
    go_wp2_with fail
  · go_ret; exact ⟨rfl, HB3.out⟩
  · go_ret; exact ⟨rfl, HB3.out⟩
  · have g1 : n ≤ 4611686018427387904 := by omega
    have g2 : m ≤ 4611686018427387904 := by omega
    refine (add_t w3 x m hm (by rw [HSZ.out]; exact hs)).mono ?_
    rintro e w4 ⟨rfl, hb4⟩
    have HB4 := Lib.hid (HB3.out.trans (hb4.mono HB3.out.size)); clear hb4
    have t3 : IntKind.u64.wrap ((n : Int) + (m : Int)) = ((n + m : Nat) : Int) := by rw [IntKind.wrap_u64, Int.emod_eq_of_lt] <;> omega
    rw [HSUM.out]
    go_wp2_with fail
    refine (add_t w4 s (n + m) (by omega) hs).mono ?_
    rintro e w5 ⟨rfl, hb5⟩
    have HB5 := Lib.hid (HB4.out.trans (hb5.mono HB4.out.size)); clear hb5
    go_wp2_with fail
    go_ret
    exact ⟨rfl, HB5.out⟩
theorem put_size (n : Nat) (w : Int) : (putS n w).size ≤ 8 := by
  by_cases h : putOk n w = true
  · have h2 := h
    simp only [putOk, Bool.and_eq_true, decide_eq_true_eq] at h2
    simp only [putS, h, if_true, tbs_size]
    omega
  · simp only [putS, h, Bool.false_eq_true, if_false]; decide
theorem puts_t (W : World) (n : Nat) (w : Int) (hn : n < 18446744073709551616) :
    Calls Try.prog 6 #[.int .u64 (n : Nat), .int .i64 w] W fun e w' => e = .returned (.bool true) ∧ Below W.heap.size W w' := by
  have hsz := put_size n w
  have hc : (putE n w != 0) = true ∨ (putE n w != 0) = false ∧ getE (putS n w) = 0 ∧ getN (putS n w) = n := by
    by_cases h : putOk n w = true
    · right
      have h2 := h
      simp only [putOk, Bool.and_eq_true, Bool.or_eq_true, decide_eq_true_eq] at h2
      have hs : (tbs n w.toNat).size = w.toNat := tbs_size _ _
      refine ⟨by simp only [putE, h, if_true]; rfl, ?_, ?_⟩
      · simp only [putS, h, if_true, getE, hs]
        rw [if_pos (by omega)]
      · simp only [putS, h, if_true, getN, hs]
        rw [if_pos (by omega)]
        exact (gv_tb_all n w.toNat hn (by omega)).2 (by rcases h2.2 with h | h; exact .inl (by omega); exact .inr h)
    · left
      simp only [putE, h, Bool.false_eq_true, if_false]; rfl
  obtain ⟨S, hS⟩ : ∃ S, S = putS n w := ⟨_, rfl⟩
  obtain ⟨E, hE⟩ : ∃ E, E = putE n w := ⟨_, rfl⟩
  rw [← hS] at hsz
  rw [← hS, ← hE] at hc
  have HS := Lib.hid hS; have HE := Lib.hid hE; have HSZ := Lib.hid hsz
  clear hS hE hsz
  rcases hc with t1 | ⟨t1, t2, t3⟩
  all_goals
    go_enter Try.func6, Try.ntmps6
    go_wp2_with fail
    refine (put_t W n w).mono ?_
    rintro e w1 ⟨rfl, hb1⟩
    have HB1 := Lib.hid hb1; clear hb1
    rw [← HS.out, ← HE.out]
    go_wp2_with fail
    refine (rput_t w1 n w hn).mono ?_
    rintro e w2 ⟨rfl, hb2⟩
    have HB2 := Lib.hid (HB1.out.trans (hb2.mono HB1.out.size)); clear hb2
    rw [← HS.out, ← HE.out]
    go_wp2_with fail
    refine (get_t w2 S (Nat.le_trans HSZ.out (by decide))).mono ?_
    rintro e w3 ⟨rfl, hb3⟩
    have HB3 := Lib.hid (HB2.out.trans (hb3.mono HB2.out.size)); clear hb3
    go_wp2_with fail
    refine (wakes_t w3).mono ?_
    rintro e w4 ⟨rfl, hb4⟩
    have HB4 := Lib.hid (HB3.out.trans (hb4.mono HB3.out.size)); clear hb4
    go_wp2_with fail
    go_ret
    exact ⟨rfl, HB4.out⟩
end Go.Proofs.Ytooakkelinaelaa
