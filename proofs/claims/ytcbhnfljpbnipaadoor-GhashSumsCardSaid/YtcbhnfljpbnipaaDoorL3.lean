/- THE LAW's WALK: GhashField: it returns true at every input, whatever the world that holds the table. -/
import Derived.Test.YtcbhnfljpbnipaaDoorL2
namespace Go.Proofs.YtcbhnfljpbnipaaDoor
open Go.RowKit
attribute [local go_sem] setCell_drewN alloc_drewN
theorem mulS_ok (a b : ByteArray) (ha : a.size = 16) (hb : b.size = 16) : mulS a b = stB (gmul (ldP a) (ldP b)) := by rw [mulS, if_pos ⟨ha, hb⟩]
theorem mulN_ok (a b : ByteArray) (ha : a.size = 16) (hb : b.size = 16) : mulN a b = 0 := by rw [mulN, if_pos ⟨ha, hb⟩]
theorem field_no (w : World) (a b c : ByteArray) (hF : FoldAt w) (h : ¬ (a.size = 16 ∧ b.size = 16 ∧ c.size = 16)) :
    Calls Tryd.prog 4 #[.string a, .string b, .string c] w fun e w' => e = .returned (.bool true) ∧ Below w.heap.size w w' := by
  have HF := Lib.hid hF
  clear hF
  have hc : ((a.size : Int) != 16) = true ∨ ((a.size : Int) != 16) = false ∧ ((b.size : Int) != 16) = true ∨ ((a.size : Int) != 16) = false ∧ ((b.size : Int) != 16) = false ∧ ((c.size : Int) != 16) = true := by
    by_cases ha : a.size = 16
    · by_cases hb : b.size = 16
      · have hc : ¬ c.size = 16 := fun hc => h ⟨ha, hb, hc⟩
        refine .inr (.inr ⟨by simp [ha], by simp [hb], by simp; omega⟩)
      · exact .inr (.inl ⟨by simp [ha], by simp; omega⟩)
    · exact .inl (by simp; omega)
  clear h
  rcases hc with t1 | ⟨t1, t2⟩ | ⟨t1, t2, t3⟩
  all_goals
    go_enter Tryd.func4, Tryd.ntmps4
    go_wp2_with fail
    refine (wakes_t _ HF.out).mono ?_
    rintro e w1 ⟨rfl, hb1⟩
    have HB1 := Lib.hid hb1; clear hb1
    go_wp2_with fail
    go_ret
    exact ⟨rfl, HB1.out⟩
set_option maxHeartbeats 1000000 in
theorem field_ok (w : World) (a b c : ByteArray) (hF : FoldAt w) (ha : a.size = 16) (hb : b.size = 16) (hc : c.size = 16) :
    Calls Tryd.prog 4 #[.string a, .string b, .string c] w fun e w' => e = .returned (.bool true) ∧ Below w.heap.size w w' := by
  have HF := Lib.hid hF
  have t1 : ((a.size : Int) != 16) = false := by simp [ha]
  have t2 : ((b.size : Int) != 16) = false := by simp [hb]
  have t3 : ((c.size : Int) != 16) = false := by simp [hc]
  have HA := Lib.hid ha; have HB := Lib.hid hb; have HC := Lib.hid hc
  clear hF ha hb hc
  go_enter Tryd.func4, Tryd.ntmps4
  go_wp2_with fail
  refine (wakes_t _ HF.out).mono ?_
  rintro e w1 ⟨rfl, hb1⟩
  have HF1 := Lib.hid (HF.out.below hb1 HF.out.pos)
  have HB1 := Lib.hid hb1; clear hb1
  go_wp2_with fail
  refine (mul_t _ a b HF1.out).mono ?_
  rintro e w2 ⟨rfl, hb2⟩
  have HF2 := Lib.hid (HF1.out.below hb2 HF1.out.pos)
  have HB2 := Lib.hid (HB1.out.trans (hb2.mono HB1.out.size)); clear hb2
  go_wp2_with fail
  refine (mul_t _ b c HF2.out).mono ?_
  rintro e w3 ⟨rfl, hb3⟩
  have HF3 := Lib.hid (HF2.out.below hb3 HF2.out.pos)
  have HB3 := Lib.hid (HB2.out.trans (hb3.mono HB2.out.size)); clear hb3
  go_wp2_with fail
  refine (mul_t _ a c HF3.out).mono ?_
  rintro e w4 ⟨rfl, hb4⟩
  have HF4 := Lib.hid (HF3.out.below hb4 HF3.out.pos)
  have HB4 := Lib.hid (HB3.out.trans (hb4.mono HB3.out.size)); clear hb4
  obtain ⟨ab, hab⟩ : ∃ ab, ab = mulS a b := ⟨_, rfl⟩
  obtain ⟨bc, hbc⟩ : ∃ bc, bc = mulS b c := ⟨_, rfl⟩
  obtain ⟨ac, hac⟩ : ∃ ac, ac = mulS a c := ⟨_, rfl⟩
  rw [← hab, ← hbc, ← hac]
  have HAB := Lib.hid hab; have HBC := Lib.hid hbc; have HAC := Lib.hid hac
  clear hab hbc hac
  go_wp2_with fail
  refine (mul_t _ ab c HF4.out).mono ?_
  rintro e w5 ⟨rfl, hb5⟩
  have HF5 := Lib.hid (HF4.out.below hb5 HF4.out.pos)
  have HB5 := Lib.hid (HB4.out.trans (hb5.mono HB4.out.size)); clear hb5
  go_wp2_with fail
  refine (mul_t _ a bc HF5.out).mono ?_
  rintro e w6 ⟨rfl, hb6⟩
  have HF6 := Lib.hid (HF5.out.below hb6 HF5.out.pos)
  have HB6 := Lib.hid (HB5.out.trans (hb6.mono HB5.out.size)); clear hb6
  go_wp2_with fail
  refine (lxor_t _ b c (by rw [HB.out]; omega) (by rw [HC.out]; omega)).mono ?_
  rintro e w7 ⟨rfl, hb7⟩
  have HF7 := Lib.hid (HF6.out.below hb7 HF6.out.pos)
  have HB7 := Lib.hid (HB6.out.trans (hb7.mono HB6.out.size)); clear hb7
  obtain ⟨xbc, hxbc⟩ : ∃ x : ByteArray, x = ⟨(xorL b c).toArray⟩ := ⟨_, rfl⟩
  rw [← hxbc]
  have HXBC := Lib.hid hxbc; clear hxbc
  go_wp2_with fail
  refine (mul_t _ a xbc HF7.out).mono ?_
  rintro e w8 ⟨rfl, hb8⟩
  have HB8 := Lib.hid (HB7.out.trans (hb8.mono HB7.out.size)); clear hb8
  have hab : ab = stB (gmul (ldP a) (ldP b)) := HAB.out.trans (mulS_ok _ _ HA.out HB.out)
  have hbc : bc = stB (gmul (ldP b) (ldP c)) := HBC.out.trans (mulS_ok _ _ HB.out HC.out)
  have hac : ac = stB (gmul (ldP a) (ldP c)) := HAC.out.trans (mulS_ok _ _ HA.out HC.out)
  have sab : ab.size = 16 := by rw [hab, stB_size]
  have sbc : bc.size = 16 := by rw [hbc, stB_size]
  have sac : ac.size = 16 := by rw [hac, stB_size]
  have sx : xbc.size = 16 := by
    rw [HXBC.out]
    show (xorL b c).toArray.size = 16
    simpa using xorL_length b c HB.out HC.out
  have e1 : mulS ab c = mulS a bc := by
    rw [mulS_ok _ _ sab HC.out, mulS_ok _ _ HA.out sbc, hab, hbc, ld_st, ld_st, gmul_assoc]
  have e2 : mulS a xbc = ⟨(xorL ab ac).toArray⟩ := by
    rw [mulS_ok _ _ HA.out sx, HXBC.out, ld_xor b c HB.out HC.out, gmul_xorP, st_xor, hab, hac]
  have e3 : mulN a xbc = 0 := mulN_ok _ _ HA.out sx
  have s1 : (mulS a bc).size = 16 := by rw [mulS_ok _ _ HA.out sbc, stB_size]
  rw [e1, e2, e3]
  obtain ⟨y, hy⟩ : ∃ y, y = mulS a bc := ⟨_, rfl⟩
  rw [← hy] at s1 ⊢
  have t4 : ((y.size : Int) == 16) = true := by simp [s1]
  clear hab hbc hac e1 e2 e3 s1 hy sx sbc
  have SAB := Lib.hid sab; have SAC := Lib.hid sac
  clear sab sac
  go_wp2_with fail
  refine (lxor_t _ ab ac (by rw [SAB.out]; omega) (by rw [SAC.out]; omega)).mono ?_
  rintro e w9 ⟨rfl, hb9⟩
  have HB9 := Lib.hid (HB8.out.trans (hb9.mono HB8.out.size)); clear hb9
  go_wp2_with fail
  go_ret
  exact ⟨rfl, HB9.out⟩
theorem field_t (w : World) (a b c : ByteArray) (hF : FoldAt w) :
    Calls Tryd.prog 4 #[.string a, .string b, .string c] w fun e w' => e = .returned (.bool true) ∧ Below w.heap.size w w' := by
  by_cases h : a.size = 16 ∧ b.size = 16 ∧ c.size = 16
  · exact field_ok w a b c hF h.1 h.2.1 h.2.2
  · exact field_no w a b c hF h
end Go.Proofs.YtcbhnfljpbnipaaDoor
