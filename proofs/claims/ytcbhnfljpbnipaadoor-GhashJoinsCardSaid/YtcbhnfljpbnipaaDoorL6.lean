/- THE LAW GhashJoins: it returns true at every input. -/
import Derived.Test.YtcbhnfljpbnipaaDoorL5
import Derived.Test.YtcbhnfljpbnipaaDoorG6
import Derived.Deep.RegionWith
import Derived.BigRegion
namespace Go.Proofs.YtcbhnfljpbnipaaDoor
open Go.RowKit
attribute [local go_sem] setCell_drewN alloc_drewN
theorem joins_no (w : World) (key a b : ByteArray) (hF : FoldAt w) (h : ¬ (key.size = 16 ∧ a.size % 16 = 0 ∧ b.size % 16 = 0 ∧ a.size ≤ 5000 ∧ b.size ≤ 5000 ∧ 0 < b.size)) :
    Calls Tryd.prog 6 #[.string key, .string a, .string b] w fun e w' => e = .returned (.bool true) ∧ Below w.heap.size w w' := by
  have HF := Lib.hid hF
  clear hF
  have eb : b.toList.isEmpty = (b.size == 0) := by
    rw [ByteArray.toList_eq]
    cases hb : b.data.toList with
    | nil => have : b.size = 0 := by simpa using congrArg List.length hb
             simp [this]
    | cons x l => have : b.size = l.length + 1 := by simpa using congrArg List.length hb
                  simp [this]
  have hc : ((key.size : Int) != 16) = true ∨ ((key.size : Int) != 16) = false ∧ (((a.size : Int) % 16 != 0) = true ∨ ((a.size : Int) % 16 != 0) = false ∧ (((b.size : Int) % 16 != 0) = true ∨ ((b.size : Int) % 16 != 0) = false ∧
      (decide ((5000 : Int) < (a.size : Int)) = true ∨ decide ((5000 : Int) < (a.size : Int)) = false ∧ (decide ((5000 : Int) < (b.size : Int)) = true ∨ decide ((5000 : Int) < (b.size : Int)) = false ∧ b.toList.isEmpty = true)))) := by
    rw [eb]
    have e1 : ((key.size : Int) != 16) = !decide (key.size = 16) := by by_cases hk : key.size = 16 <;> simp [hk] <;> omega
    have e2 : ((a.size : Int) % 16 != 0) = !decide (a.size % 16 = 0) := by by_cases hk : a.size % 16 = 0 <;> simp [hk] <;> omega
    have e3 : ((b.size : Int) % 16 != 0) = !decide (b.size % 16 = 0) := by by_cases hk : b.size % 16 = 0 <;> simp [hk] <;> omega
    have e4 : decide ((5000 : Int) < (a.size : Int)) = !decide (a.size ≤ 5000) := by by_cases hk : a.size ≤ 5000 <;> simp [hk] <;> omega
    have e5 : decide ((5000 : Int) < (b.size : Int)) = !decide (b.size ≤ 5000) := by by_cases hk : b.size ≤ 5000 <;> simp [hk] <;> omega
    have e6 : (b.size == 0) = !decide (0 < b.size) := by cases b.size <;> simp
    rw [e1, e2, e3, e4, e5, e6]
    revert h
    by_cases c1 : key.size = 16 <;> by_cases c2 : a.size % 16 = 0 <;> by_cases c3 : b.size % 16 = 0 <;> by_cases c4 : a.size ≤ 5000 <;> by_cases c5 : b.size ≤ 5000 <;> by_cases c6 : 0 < b.size <;> simp [c1, c2, c3, c4, c5, c6]
  clear h eb
  rcases hc with t1 | ⟨t1, t2 | ⟨t2, t3 | ⟨t3, t4 | ⟨t4, t5 | ⟨t5, t6⟩⟩⟩⟩⟩
  all_goals
    go_enter Tryd.func6, Tryd.ntmps6
    go_wp2_with fail
    refine (wakes_t _ HF.out).mono ?_
    rintro e w1 ⟨rfl, hb1⟩
    have HB1 := Lib.hid hb1; clear hb1
    go_wp2_with fail
    go_ret
    exact ⟨rfl, HB1.out⟩
set_option maxHeartbeats 1000000 in
theorem joins_ok (w : World) (key a b : ByteArray) (n m : Nat) (hF : FoldAt w) (hk : key.size = 16) (ha : a.size = 16 * n) (hb : b.size = 16 * (m + 1)) (hn : a.size ≤ 5000) (hm : b.size ≤ 5000) :
    Calls Tryd.prog 6 #[.string key, .string a, .string b] w fun e w' => e = .returned (.bool true) ∧ Below w.heap.size w w' := by
  have HF := Lib.hid hF
  clear hF
  have t1 : ((key.size : Int) != 16) = false := by simp [hk]
  have t2 : ((a.size : Int) % 16 != 0) = false := by simp [ha]
  have t3 : ((b.size : Int) % 16 != 0) = false := by rw [hb]; simp
  have t4 : decide ((5000 : Int) < (a.size : Int)) = false := by simp; omega
  have t5 : decide ((5000 : Int) < (b.size : Int)) = false := by simp; omega
  have t6 : b.toList.isEmpty = false := by
    rw [ByteArray.toList_eq]
    cases hb' : b.data.toList with
    | nil => have : b.size = 0 := by simpa using congrArg List.length hb'
             omega
    | cons x l => rfl
  have hsum : sumN key (a ++ b) = 0 := by rw [sumN, if_neg (fun h => h hk), if_pos ⟨by rw [ByteArray.size_append]; omega, by rw [ByteArray.size_append]; omega⟩]
  have hsa : sumN key a = 0 := by rw [sumN, if_neg (fun h => h hk), if_pos ⟨by omega, by omega⟩]
  have hx : sumS key a = stB (sumTo key a n) := by rw [sumS, if_pos ⟨hk, by omega, by omega⟩, ha, show 16 * n / 16 = n by omega]
  have hs : sumS key (a ++ b) = stB (sumTo key (a ++ b) (n + (m + 1))) := by
    rw [sumS, if_pos ⟨hk, by rw [ByteArray.size_append]; omega, by rw [ByteArray.size_append]; omega⟩, ByteArray.size_append, ha, hb, show (16 * n + 16 * (m + 1)) / 16 = n + (m + 1) by omega]
  obtain ⟨x, hxx⟩ : ∃ x, x = sumS key a := ⟨_, rfl⟩
  have hx16 : x.size = 16 := by rw [hxx, hx, stB_size]
  have t7 : ((x.size : Int) != 16) = false := by simp [hx16]
  have hb0 : (b.extract 0 16).size = 16 := by rw [ByteArray.size_extract]; omega
  have hy16 : (⟨(xorL x (b.extract 0 16)).toArray⟩ : ByteArray).size = 16 := by
    show (xorL x (b.extract 0 16)).toArray.size = 16
    simpa using xorL_length x _ hx16 hb0
  have hbs : (b.extract 16 b.size).size = 16 * m := by rw [ByteArray.size_extract]; omega
  have hj : sumS key ((⟨(xorL x (b.extract 0 16)).toArray⟩ : ByteArray) ++ b.extract 16 b.size) = sumS key (a ++ b) := by
    rw [sumS, if_pos ⟨hk, by rw [ByteArray.size_append]; omega, by rw [ByteArray.size_append]; omega⟩, hs, ByteArray.size_append, hy16, hbs, show (16 + 16 * m) / 16 = m + 1 by omega]
    rw [sumTo_joins key a b _ n m ha hb (by rw [hxx, hx])]
  have hjn : sumN key ((⟨(xorL x (b.extract 0 16)).toArray⟩ : ByteArray) ++ b.extract 16 b.size) = 0 := by
    rw [sumN, if_neg (fun h => h hk), if_pos ⟨by rw [ByteArray.size_append]; omega, by rw [ByteArray.size_append]; omega⟩]
  obtain ⟨y, hy⟩ : ∃ y : ByteArray, y = ⟨(xorL x (b.extract 0 16)).toArray⟩ := ⟨_, rfl⟩
  rw [← hy] at hj hjn hy16
  have hy2 : y.size ≤ 16 := by omega
  have hb2 : (b.extract 16 b.size).size ≤ 5000 := by omega
  have HY := Lib.hid hy
  clear hy
  have g1 : (16 : Int) ≤ (b.size : Int) := by omega
  have g2 : 16 ≤ b.size := by omega
  have HK := Lib.hid hk; have HS := Lib.hid hsum; have HSA := Lib.hid hsa; have HX := Lib.hid hxx; have HX16 := Lib.hid hx16; have HB0 := Lib.hid hb0; have HJ := Lib.hid hj; have HJN := Lib.hid hjn
  clear hk ha hb hsum hsa hx hs hxx hx16 hy16 hb0 hbs hj hjn
  go_enter Tryd.func6, Tryd.ntmps6
  go_wp2_with fail
  refine (wakes_t _ HF.out).mono ?_
  rintro e w1 ⟨rfl, hb1⟩
  have HF1 := Lib.hid (HF.out.below hb1 HF.out.pos)
  have HB1 := Lib.hid hb1; clear hb1
  go_wp2_with fail
  refine (sum_t _ key (a ++ b) HF1.out).mono ?_
  rintro e w2 ⟨rfl, hb2⟩
  have HF2 := Lib.hid (HF1.out.below hb2 HF1.out.pos)
  have HB2 := Lib.hid (HB1.out.trans (hb2.mono HB1.out.size)); clear hb2
  rw [HS.out]
  obtain ⟨sab, hsab⟩ : ∃ x, x = sumS key (a ++ b) := ⟨_, rfl⟩
  rw [← hsab]
  have HSAB := Lib.hid hsab; clear hsab
  go_wp2_with fail
  refine (sum_t _ key a HF2.out).mono ?_
  rintro e w3 ⟨rfl, hb3⟩
  have HF3 := Lib.hid (HF2.out.below hb3 HF2.out.pos)
  have HB3 := Lib.hid (HB2.out.trans (hb3.mono HB2.out.size)); clear hb3
  rw [HSA.out, ← HX.out]
  go_wp2_with fail
  go_region_with ((first | (go_at_call 11; refine (lxor_t _ x (b.extract 0 16) (by have := HX16.out; omega) (by have := HB0.out; omega)).mono ?_; rintro e w4 ⟨rfl, hb4⟩; have HF4 := Lib.hid (FoldAt.below (show FoldAt w3.drew from HF3.out) hb4 HF3.out.pos); have HB4 := Lib.hid (HB3.out.drew.trans (hb4.mono HB3.out.size)); clear hb4; rw [← HY.out]) | (go_at_call 12; refine (sum_t _ key _ HF4.out).mono ?_; rintro e w5 ⟨rfl, hb5⟩; have HB5 := Lib.hid (HB4.out.trans (hb5.mono HB4.out.size)); clear hb5; rw [HJ.out, HJN.out, ← HSAB.out])))
  all_goals
    go_wp2_with fail
    go_ret
    exact ⟨rfl, HB5.out⟩
/-- THE LAW GhashJoins. -/
theorem joins_t (w : World) (key a b : ByteArray) (hF : FoldAt w) :
    Calls Tryd.prog 6 #[.string key, .string a, .string b] w fun e w' => e = .returned (.bool true) ∧ Below w.heap.size w w' := by
  by_cases h : key.size = 16 ∧ a.size % 16 = 0 ∧ b.size % 16 = 0 ∧ a.size ≤ 5000 ∧ b.size ≤ 5000 ∧ 0 < b.size
  · exact joins_ok w key a b (a.size / 16) (b.size / 16 - 1) hF h.1 (by omega) (by omega) h.2.2.2.1 h.2.2.2.2.1
  · exact joins_no w key a b hF h
end Go.Proofs.YtcbhnfljpbnipaaDoor
