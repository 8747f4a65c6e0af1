/- THE LAW OctetXors: it returns true. -/
import Derived.Test.YtooakkelinaelaaW13
import Derived.Deep.RegionWith
namespace Go.Proofs.Ytooakkelinaelaa
open Go.RowKit
attribute [local go_sem] setCell_drewN alloc_drewN
theorem zip_xor (l : List UInt8) : ∀ r : List UInt8, List.zipWith (· ^^^ ·) (List.zipWith (· ^^^ ·) l r) r = l.take (min l.length r.length) := by
  induction l with
  | nil => intro r; simp
  | cons x l ih =>
    intro r
    cases r with
    | nil => simp
    | cons y r =>
      have hm : min (l.length + 1) (r.length + 1) = min l.length r.length + 1 := by omega
      simp only [List.zipWith_cons_cons, List.length_cons, hm, List.take_succ_cons, ih r]
      rw [UInt8.xor_assoc, UInt8.xor_self, UInt8.xor_zero]
theorem xorL_comm (a b : ByteArray) : xorL b a = xorL a b := by
  unfold xorL
  rw [List.zipWith_comm]
  congr 1
  funext x y
  exact UInt8.xor_comm ..
theorem xorL_back (a b : ByteArray) (m : Nat) (hm : m = min a.size b.size) : (⟨(xorL ⟨(xorL a b).toArray⟩ b).toArray⟩ : ByteArray) = a.extract 0 m := by
  have ha : a.data.toList.length = a.size := by simp
  have hb : b.data.toList.length = b.size := by simp
  apply ba_ext
  show (xorL ⟨(xorL a b).toArray⟩ b).toArray.toList = (a.extract 0 m).data.toList
  rw [List.toList_toArray, ByteArray.data_extract, Array.toList_extract, List.extract_eq_take_drop]
  unfold xorL
  show List.zipWith _ (List.zipWith _ a.data.toList b.data.toList).toArray.toList b.data.toList = _
  rw [List.toList_toArray, zip_xor, ha, hb, hm]
  simp
theorem xorL_size (a b : ByteArray) : (⟨(xorL a b).toArray⟩ : ByteArray).size ≤ a.size := by
  show (xorL a b).toArray.size ≤ a.size
  unfold xorL
  have ha : a.data.toList.length = a.size := by simp
  rw [List.size_toArray, List.length_zipWith, ha]
  omega
set_option maxRecDepth 100000 in
set_option maxHeartbeats 1000000 in
theorem xors_t (W : World) (a b : ByteArray) (ha : a.size ≤ 140737488351232) (hb : b.size ≤ 140737488351232) :
    Calls Try.prog 3 #[.string a, .string b] W fun e w' => e = .returned (.bool true) ∧ Below W.heap.size W w' := by
  have hxs := xorL_size a b
  have hcm := xorL_comm a b
  obtain ⟨m, hm⟩ : ∃ m, m = min a.size b.size := ⟨_, rfl⟩
  have hbk := xorL_back a b m hm
  obtain ⟨x, hx⟩ : ∃ x : ByteArray, x = ⟨(xorL a b).toArray⟩ := ⟨_, rfl⟩
  rw [← hx] at hxs hbk
  have hba : (⟨(xorL b a).toArray⟩ : ByteArray) = x := by rw [hcm, hx]
  have hma : m ≤ a.size := by omega
  have hxs2 : x.size ≤ 140737488351232 := by omega
  have HX := Lib.hid hx; have HBK := Lib.hid hbk; have HBA := Lib.hid hba; have HM := Lib.hid hm
  clear hx hbk hba hcm hxs hm
  go_enter Try.func3, Try.ntmps3
  go_wp2_with fail
  refine (xor_t W a b ha).mono ?_
  rintro e w1 ⟨rfl, hb1⟩
  have HB1 := Lib.hid hb1; clear hb1
  rw [← HX.out]
  go_wp2_with fail
  refine wp_region_any (by kernel_rfl) ?_
  try (change wpAny _ _ _ _ _ _ _ (World.drew _))
  refine wpAny_ready (rs := [0]) (by kernel_rfl) (by simp) ?_
  refine AllReady.cons rfl (fun K hK => ?_) AllReady.nil
  go_simp
  go_wp2_with (go_at_call 10; refine (wakes_t _).mono ?_; rintro e w2 ⟨rfl, hb2⟩; have HB2 := Lib.hid (HB1.out.drew.trans (hb2.mono HB1.out.size)); clear hb2)
  refine wpAny_take (i := 1) (v := .bool true) rfl (by kernel_rfl) (by kernel_rfl) (by kernel_rfl) (fun _ _ _ h => h) (Or.inl ⟨by kernel_rfl, ?hy⟩) ?_
  case hy => intro w; go_simp
  refine wpAny_take (i := 2) (v := .string x) rfl (by kernel_rfl) (by kernel_rfl) (by kernel_rfl) (fun _ _ _ h => h) (Or.inl ⟨by kernel_rfl, ?hy⟩) ?_
  case hy => intro w; go_simp
  refine wpAny_take (i := 3) (v := .string a) rfl (by kernel_rfl) (by kernel_rfl) (by kernel_rfl) (fun _ _ _ h => h) (Or.inl ⟨by kernel_rfl, ?hy⟩) ?_
  case hy => intro w; go_simp
  refine wpAny_take (i := 4) (v := .string b) rfl (by kernel_rfl) (by kernel_rfl) (by kernel_rfl) (fun _ _ _ h => h) (Or.inl ⟨by kernel_rfl, ?hy⟩) ?_
  case hy => intro w; go_simp
  refine wpAny_ready (rs := [5]) (by kernel_rfl) (by simp) ?_
  refine AllReady.cons rfl (fun K hK => ?_) AllReady.nil
  go_simp
  go_wp2_with (go_at_call 11; refine (rxor_t _ a b ha hb).mono ?_; rintro e w3 ⟨rfl, hb3⟩; have HB3 := Lib.hid (HB2.out.trans (hb3.mono HB2.out.size)); clear hb3; rw [← HX.out])
  refine wpAny_take (i := 6) (v := .bool true) rfl (by kernel_rfl) (by kernel_rfl) (by kernel_rfl) (fun _ _ _ h => h) (Or.inl ⟨by kernel_rfl, ?hy⟩) ?_
  case hy => intro w; go_simp
  refine wpAny_take (i := 7) (v := .bool true) rfl (by kernel_rfl) (by kernel_rfl) (by kernel_rfl) (fun _ _ _ h => h) (Or.inl ⟨by kernel_rfl, ?hy⟩) ?_
  case hy => intro w; go_simp
  refine wpAny_take (i := 8) (v := .bool true) rfl (by kernel_rfl) (by kernel_rfl) (by kernel_rfl) (fun _ _ _ h => h) (Or.inl ⟨by kernel_rfl, ?hy⟩) ?_
  case hy => intro w; go_simp
  refine wpAny_take (i := 9) (v := .string x) rfl (by kernel_rfl) (by kernel_rfl) (by kernel_rfl) (fun _ _ _ h => h) (Or.inl ⟨by kernel_rfl, ?hy⟩) ?_
  case hy => intro w; go_simp
  simp only [Act.put, List.setIfInBounds_toArray, List.set_cons_succ]
  refine wpAny_take (i := 10) (v := .string b) rfl (by kernel_rfl) (by kernel_rfl) (by kernel_rfl) (fun _ _ _ h => h) (Or.inl ⟨by kernel_rfl, ?hy⟩) ?_
  case hy => intro w; go_simp
  refine wpAny_take (i := 12) (v := .string a) rfl (by kernel_rfl) (by kernel_rfl) (by kernel_rfl) (fun _ _ _ h => h) (Or.inl ⟨by kernel_rfl, ?hy⟩) ?_
  case hy => intro w; go_simp
  refine wpAny_take (i := 13) (v := .string a) rfl (by kernel_rfl) (by kernel_rfl) (by kernel_rfl) (fun _ _ _ h => h) (Or.inl ⟨by kernel_rfl, ?hy⟩) ?_
  case hy => intro w; go_simp
  simp only [Act.put, List.setIfInBounds_toArray, List.set_cons_succ]
  refine wpAny_take (i := 14) (v := .int .i64 (a.size : Nat)) rfl (by kernel_rfl) (by kernel_rfl) (by kernel_rfl) (fun _ _ _ h => h) (Or.inl ⟨by kernel_rfl, ?hy⟩) ?_
  case hy => intro w; go_simp
  refine wpAny_take (i := 15) (v := .string b) rfl (by kernel_rfl) (by kernel_rfl) (by kernel_rfl) (fun _ _ _ h => h) (Or.inl ⟨by kernel_rfl, ?hy⟩) ?_
  case hy => intro w; go_simp
  refine wpAny_take (i := 16) (v := .int .i64 (b.size : Nat)) rfl (by kernel_rfl) (by kernel_rfl) (by kernel_rfl) (fun _ _ _ h => h) (Or.inl ⟨by kernel_rfl, ?hy⟩) ?_
  case hy => intro w; go_simp
  simp only [Act.put, List.setIfInBounds_toArray, List.set_cons_succ]
  refine wpAny_take (i := 17) (v := .int .i64 (m : Nat)) rfl (by kernel_rfl) (by kernel_rfl) (by kernel_rfl) (fun _ _ _ h => h) (Or.inl ⟨by kernel_rfl, ?hy⟩) ?_
  case hy => intro w; go_simp; have := HM.out; omega
  refine wpAny_take (i := 18) (v := .string (a.extract 0 m)) rfl (by kernel_rfl) (by kernel_rfl) (by kernel_rfl) (fun _ _ _ h => h) (Or.inl ⟨by kernel_rfl, ?hy⟩) ?_
  case hy => intro w; go_simp
  simp only [Act.put, List.setIfInBounds_toArray, List.set_cons_succ]
  refine wpAny_ready (rs := [11]) (by kernel_rfl) (by simp) ?_
  refine AllReady.cons rfl (fun K hK => ?_) AllReady.nil
  go_simp
  go_wp2_with (go_at_call 9; refine (xor_t _ x b hxs2).mono ?_; rintro e w4 ⟨rfl, hb4⟩; have HB4 := Lib.hid (HB3.out.trans (hb4.mono HB3.out.size)); clear hb4; rw [HBK.out])
  refine wpAny_take (i := 19) (v := .bool true) rfl (by kernel_rfl) (by kernel_rfl) (by kernel_rfl) (fun _ _ _ h => h) (Or.inl ⟨by kernel_rfl, ?hy⟩) ?_
  case hy => intro w; go_simp
  refine wpAny_take (i := 20) (v := .bool true) rfl (by kernel_rfl) (by kernel_rfl) (by kernel_rfl) (fun _ _ _ h => h) (Or.inl ⟨by kernel_rfl, ?hy⟩) ?_
  case hy => intro w; go_simp
  refine wpAny_take (i := 21) (v := .bool true) rfl (by kernel_rfl) (by kernel_rfl) (by kernel_rfl) (fun _ _ _ h => h) (Or.inl ⟨by kernel_rfl, ?hy⟩) ?_
  case hy => intro w; go_simp
  refine wpAny_take (i := 22) (v := .string b) rfl (by kernel_rfl) (by kernel_rfl) (by kernel_rfl) (fun _ _ _ h => h) (Or.inl ⟨by kernel_rfl, ?hy⟩) ?_
  case hy => intro w; go_simp
  refine wpAny_take (i := 23) (v := .string a) rfl (by kernel_rfl) (by kernel_rfl) (by kernel_rfl) (fun _ _ _ h => h) (Or.inl ⟨by kernel_rfl, ?hy⟩) ?_
  case hy => intro w; go_simp
  refine wpAny_take (i := 25) (v := .string x) rfl (by kernel_rfl) (by kernel_rfl) (by kernel_rfl) (fun _ _ _ h => h) (Or.inl ⟨by kernel_rfl, ?hy⟩) ?_
  case hy => intro w; go_simp
  simp only [Act.put, List.setIfInBounds_toArray, List.set_cons_succ]
  refine wpAny_ready (rs := [24]) (by kernel_rfl) (by simp) ?_
  refine AllReady.cons rfl (fun K hK => ?_) AllReady.nil
  go_simp
  go_wp2_with (go_at_call 9; refine (xor_t _ b a hb).mono ?_; rintro e w5 ⟨rfl, hb5⟩; have HB5 := Lib.hid (HB4.out.trans (hb5.mono HB4.out.size)); clear hb5; rw [HBA.out])
  refine wpAny_take (i := 26) (v := .bool true) rfl (by kernel_rfl) (by kernel_rfl) (by kernel_rfl) (fun _ _ _ h => h) (Or.inl ⟨by kernel_rfl, ?hy⟩) ?_
  case hy => intro w; go_simp
  refine wpAny_take (i := 27) (v := .bool true) rfl (by kernel_rfl) (by kernel_rfl) (by kernel_rfl) (fun _ _ _ h => h) (Or.inl ⟨by kernel_rfl, ?hy⟩) ?_
  case hy => intro w; go_simp
  refine wpAny_ready (rs := [28]) (by kernel_rfl) (by simp) ?_
  refine AllReady.cons rfl (fun K hK => ?_) AllReady.nil
  go_simp
  refine hK _ _ ?_
  clear hK K
  refine wpAny_done (by kernel_rfl) ?_ _
  go_wp2_with fail
  go_ret
  exact ⟨rfl, HB5.out⟩
end Go.Proofs.Ytooakkelinaelaa
