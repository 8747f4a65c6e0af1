/- THE LAW GhashShares: it returns true at every input. -/
import Derived.Test.YtcbhnfljpbnipaaDoorL5
import Derived.Test.YtcbhnfljpbnipaaDoorG6
import Derived.BigRegion
import Derived.BigQuiet
import Derived.Deep.QuietTactic
namespace Go.Proofs.YtcbhnfljpbnipaaDoor
open Go.RowKit
attribute [local go_sem] setCell_drewN alloc_drewN
theorem shares_no (w : World) (key a b : ByteArray) (k : Nat) (hF : FoldAt w) (hmin : b.size < a.size ∧ (b.size : Int) / 16 * 16 = 16 * (k : Int) ∨ ¬ b.size < a.size ∧ (a.size : Int) / 16 * 16 = 16 * (k : Int)) (h : ¬ (key.size = 16 ∧ 16 * k ≤ 5000)) (ha : a.size ≤ 9223372036854775807) (hb : b.size ≤ 9223372036854775807) :
    Calls Tryd.prog 7 #[.string key, .string a, .string b] w fun e w' => e = .returned (.bool true) ∧ Below w.heap.size w w' := by
  have HF := Lib.hid hF
  clear hF
  have hc : ((key.size : Int) != 16) = true ∨ ((key.size : Int) != 16) = false ∧ decide ((5000 : Int) < 16 * (k : Int)) = true := by
    by_cases hk : key.size = 16
    · exact .inr ⟨by simp [hk], by simp; omega⟩
    · exact .inl (by simp; omega)
  clear h
  rcases hmin with ⟨m1, m2⟩ | ⟨m1, m2⟩ <;> rcases hc with t1 | ⟨t1, t2⟩
  all_goals
    go_enter Tryd.func7, Tryd.ntmps7
    go_wp2_with fail
    refine (wakes_t _ HF.out).mono ?_
    rintro e w1 ⟨rfl, hb1⟩
    have HB1 := Lib.hid hb1; clear hb1
    go_wp2_with fail
    go_ret
    exact ⟨rfl, HB1.out⟩
set_option maxHeartbeats 1000000 in
theorem shares_ok (w : World) (key a b : ByteArray) (k : Nat) (hF : FoldAt w) (hmin : b.size < a.size ∧ (b.size : Int) / 16 * 16 = 16 * (k : Int) ∨ ¬ b.size < a.size ∧ (a.size : Int) / 16 * 16 = 16 * (k : Int)) (hk : key.size = 16) (h5 : 16 * k ≤ 5000) (ha : a.size ≤ 9223372036854775807) (hb : b.size ≤ 9223372036854775807) :
    Calls Tryd.prog 7 #[.string key, .string a, .string b] w fun e w' => e = .returned (.bool true) ∧ Below w.heap.size w w' := by
  have HF := Lib.hid hF
  clear hF
  have t1 : ((key.size : Int) != 16) = false := by simp [hk]
  have t2 : decide ((5000 : Int) < 16 * (k : Int)) = false := by simp; omega
  have q1 : (16 * (k : Int)).toNat = 16 * k := by omega
  have q2 : 0 ≤ 16 * (k : Int) := by omega
  have q3 : 16 * (k : Int) ≤ (a.size : Int) := by omega
  have q4 : 16 * (k : Int) ≤ (b.size : Int) := by omega
  have q5 : 16 * k ≤ a.size := by omega
  have q6 : 16 * k ≤ b.size := by omega
  obtain ⟨a', ha'⟩ : ∃ a', a' = a.extract 0 (16 * k) := ⟨_, rfl⟩
  obtain ⟨b', hb'⟩ : ∃ b', b' = b.extract 0 (16 * k) := ⟨_, rfl⟩
  have sa : a'.size = 16 * k := by rw [ha', ByteArray.size_extract]; omega
  have sb : b'.size = 16 * k := by rw [hb', ByteArray.size_extract]; omega
  have hx : sumS key a' = stB (sumTo key a' k) := by rw [sumS, if_pos ⟨hk, by omega, by omega⟩, sa, show 16 * k / 16 = k by omega]
  have hy : sumS key b' = stB (sumTo key b' k) := by rw [sumS, if_pos ⟨hk, by omega, by omega⟩, sb, show 16 * k / 16 = k by omega]
  have sx : (⟨(xorL a' b').toArray⟩ : ByteArray).size = 16 * k := by
    show (xorL a' b').toArray.size = 16 * k
    unfold xorL; simp [sa, sb]
  have hz : sumS key ⟨(xorL a' b').toArray⟩ = ⟨(xorL (sumS key a') (sumS key b')).toArray⟩ := by
    rw [sumS, if_pos ⟨hk, by omega, by omega⟩, sx, show 16 * k / 16 = k by omega, sumTo_shares key a' b' k sa sb k (Nat.le_refl _), st_xor, hx, hy]
  have hzn : sumN key ⟨(xorL a' b').toArray⟩ = 0 := by rw [sumN, if_neg (fun h => h hk), if_pos ⟨by omega, by omega⟩]
  have hz16 : (sumS key ⟨(xorL a' b').toArray⟩).size = 16 := by rw [sumS, if_pos ⟨hk, by omega, by omega⟩, stB_size]
  obtain ⟨X, hX⟩ : ∃ X, X = sumS key a' := ⟨_, rfl⟩
  obtain ⟨Y, hY⟩ : ∃ Y, Y = sumS key b' := ⟨_, rfl⟩
  obtain ⟨Z, hZ⟩ : ∃ Z, Z = sumS key ⟨(xorL a' b').toArray⟩ := ⟨_, rfl⟩
  have sX : X.size = 16 := by rw [hX, hx, stB_size]
  have sY : Y.size = 16 := by rw [hY, hy, stB_size]
  rw [← hZ] at hz16 hz
  rw [← hX, ← hY] at hz
  have t3 : ((Z.size : Int) == 16) = true := by simp [hz16]
  have HA' := Lib.hid ha'; have HB' := Lib.hid hb'; have SA := Lib.hid sa; have SB := Lib.hid sb; have HX := Lib.hid hX; have HY := Lib.hid hY; have HZ := Lib.hid hZ; have SX := Lib.hid sX; have SY := Lib.hid sY; have HZN := Lib.hid hzn; have HZE := Lib.hid hz
  clear ha' hb' sa sb hx hy sx hz hzn hz16 hX hY hZ sX sY hk
  rcases hmin with ⟨m1, m2⟩ | ⟨m1, m2⟩
  all_goals
    go_enter Tryd.func7, Tryd.ntmps7
    go_wp2_with fail
    refine (wakes_t _ HF.out).mono ?_
    rintro e w1 ⟨rfl, hb1⟩
    have HF1 := Lib.hid (HF.out.below hb1 HF.out.pos)
    have HB1 := Lib.hid hb1; clear hb1
    go_wp2_with fail
    go_quiet (fail)
    go_wp2_with fail
    rw [← HA'.out, ← HB'.out]
    refine (sum_t (w1.drewN nq) key a' (show FoldAt (w1.drewN nq) from HF1.out)).mono ?_
    rintro e w2 ⟨rfl, hb2⟩
    have HF2 := Lib.hid (FoldAt.below (show FoldAt (w1.drewN nq) from HF1.out) hb2 HF1.out.pos)
    have HB2 := Lib.hid ((below_drewN HB1.out _).trans (hb2.mono HB1.out.size)); clear hb2
    rw [← HX.out]
    go_wp2_with fail
    refine (sum_t _ key b' HF2.out).mono ?_
    rintro e w3 ⟨rfl, hb3⟩
    have HF3 := Lib.hid (HF2.out.below hb3 HF2.out.pos)
    have HB3 := Lib.hid (HB2.out.trans (hb3.mono HB2.out.size)); clear hb3
    rw [← HY.out]
    go_wp2_with fail
    refine (lxor_t _ a' b' (by have := SA.out; omega) (by have := SB.out; omega)).mono ?_
    rintro e w4 ⟨rfl, hb4⟩
    have HF4 := Lib.hid (HF3.out.below hb4 HF3.out.pos)
    have HB4 := Lib.hid (HB3.out.trans (hb4.mono HB3.out.size)); clear hb4
    go_wp2_with fail
    refine (sum_t _ key _ HF4.out).mono ?_
    rintro e w5 ⟨rfl, hb5⟩
    have HB5 := Lib.hid (HB4.out.trans (hb5.mono HB4.out.size)); clear hb5
    rw [HZN.out, ← HZ.out]
    go_wp2_with fail
    refine (lxor_t _ X Y (by have := SX.out; omega) (by have := SY.out; omega)).mono ?_
    rintro e w6 ⟨rfl, hb6⟩
    have HB6 := Lib.hid (HB5.out.trans (hb6.mono HB5.out.size)); clear hb6
    rw [← HZE.out]
    go_wp2_with fail
    go_ret
    exact ⟨rfl, HB6.out⟩
/-- THE LAW GhashShares. -/
theorem shares_t (w : World) (key a b : ByteArray) (hF : FoldAt w) (ha : a.size ≤ 9223372036854775807) (hb : b.size ≤ 9223372036854775807) :
    Calls Tryd.prog 7 #[.string key, .string a, .string b] w fun e w' => e = .returned (.bool true) ∧ Below w.heap.size w w' := by
  obtain ⟨k, hk⟩ : ∃ k, k = min a.size b.size / 16 := ⟨_, rfl⟩
  have hmin : b.size < a.size ∧ (b.size : Int) / 16 * 16 = 16 * (k : Int) ∨ ¬ b.size < a.size ∧ (a.size : Int) / 16 * 16 = 16 * (k : Int) := by omega
  by_cases h : key.size = 16 ∧ 16 * k ≤ 5000
  · exact shares_ok w key a b k hF hmin h.1 h.2 ha hb
  · exact shares_no w key a b k hF hmin h ha hb
end Go.Proofs.YtcbhnfljpbnipaaDoor
