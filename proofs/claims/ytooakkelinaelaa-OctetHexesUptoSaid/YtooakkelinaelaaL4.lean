/- THE LAW OctetHexes: it returns true. -/
import Derived.Test.YtooakkelinaelaaW16
import Derived.Test.YtooakkelinaelaaW13
namespace Go.Proofs.Ytooakkelinaelaa
open Go.RowKit
attribute [local go_sem] setCell_drewN alloc_drewN
theorem fill_ul (s : ByteArray) (d : Nat) : fill (uf s) (zeros d) d = ul s d := by
  have h := fill_all (uf s) (zeros d)
  rw [zeros_length] at h
  exact h
theorem bad_or (s : ByteArray) : (∃ m, firstBad s m) ∨ ∀ i, i < s.size → hv (byteAt s i) < 16 := by
  have h : ∀ k, k ≤ s.size → (∃ m, firstBad s m) ∨ ∀ i, i < k → hv (byteAt s i) < 16 := by
    intro k
    induction k with
    | zero => intro _; right; intro i hi; omega
    | succ k ih =>
      intro hk
      rcases ih (by omega) with h | h
      · exact .inl h
      · by_cases hb : hv (byteAt s k) < 16
        · right
          intro i hi
          by_cases hik : i = k
          · rw [hik]; exact hb
          · exact h i (by omega)
        · left
          exact ⟨k, by omega, h, hb⟩
  exact h s.size (Nat.le_refl _)
/-- both read alike -/
theorem both (s : ByteArray) (hs : s.size ≤ 140737488351232) : ∃ (S : ByteArray) (p e : Int),
    (∀ W, Calls Try.prog 21 #[.string s] W fun x w' => x = .returned (.tuple #[.string S, .int .i64 p, .int .i64 e]) ∧ Below W.heap.size W w') ∧
    (∀ W, Calls Try.prog 22 #[.string s] W fun x w' => x = .returned (.tuple #[.string S, .int .i64 p, .int .i64 e]) ∧ Below W.heap.size W w') := by
  rcases bad_or s with ⟨m, hm⟩ | hg
  · exact ⟨_, _, _, fun W => unhex_bad W s m hm hs, fun W => runhex_bad W s m hm hs⟩
  · by_cases h : s.size % 2 = 1
    · exact ⟨_, _, _, fun W => unhex_good W s _ (by rw [if_pos h]) hg hs, fun W => runhex_good W s _ (by rw [if_pos h]) hg hs⟩
    · exact ⟨_, _, _, fun W => unhex_good W s _ (by rw [if_neg h, fill_ul]) hg hs, fun W => runhex_good W s _ (by rw [if_neg h]) hg hs⟩
theorem hv_sg (n : Nat) (h : n < 16) : hv (sg n) = n := by
  have hall : ∀ m : Fin 16, hv (sg m.val) = m.val := by decide +kernel
  exact hall ⟨n, h⟩
theorem hx_get (s : ByteArray) (k i : Nat) (h : i < k) : (hx s k)[2 * i]? = some (sg ((byteAt s i).toNat / 16)) ∧ (hx s k)[2 * i + 1]? = some (sg ((byteAt s i).toNat % 16)) := by
  induction k with
  | zero => omega
  | succ k ih =>
    have hl := hx_length s k
    rw [hx]
    by_cases hik : i = k
    · subst hik
      constructor
      · rw [List.getElem?_append_right (by omega), hl, Nat.sub_self]; rfl
      · rw [List.getElem?_append_right (by omega), hl]
        have : 2 * i + 1 - 2 * i = 1 := by omega
        rw [this]; rfl
    · rw [List.getElem?_append_left (by omega), List.getElem?_append_left (by omega)]
      exact ih (by omega)
def hxB (s : ByteArray) : ByteArray := ⟨(hx s s.size).toArray⟩
theorem hxB_size (s : ByteArray) : (hxB s).size = 2 * s.size := by
  show (hx s s.size).toArray.size = _
  rw [List.size_toArray, hx_length]
theorem hxB_at (s : ByteArray) (i : Nat) (h : i < s.size) : byteAt (hxB s) (2 * i) = sg ((byteAt s i).toNat / 16) ∧ byteAt (hxB s) (2 * i + 1) = sg ((byteAt s i).toNat % 16) := by
  unfold byteAt
  show ((hx s s.size).toArray.toList[2 * i]?).getD 0 = _ ∧ ((hx s s.size).toArray.toList[2 * i + 1]?).getD 0 = _
  rw [List.toList_toArray, (hx_get s s.size i h).1, (hx_get s s.size i h).2]
  exact ⟨rfl, rfl⟩
theorem hxB_good (s : ByteArray) : ∀ i, i < (hxB s).size → hv (byteAt (hxB s) i) < 16 := by
  intro i hi
  rw [hxB_size] at hi
  have hb := (byteAt s (i / 2)).toNat_lt
  by_cases h : i % 2 = 0
  · have e : i = 2 * (i / 2) := by omega
    rw [e, (hxB_at s (i / 2) (by omega)).1, hv_sg _ (by omega)]; omega
  · have e : i = 2 * (i / 2) + 1 := by omega
    rw [e, (hxB_at s (i / 2) (by omega)).2, hv_sg _ (by omega)]; omega
theorem hxB_back (s : ByteArray) : (⟨(ul (hxB s) s.size).toArray⟩ : ByteArray) = s := by
  apply ba_ext
  show (ul (hxB s) s.size).toArray.toList = s.data.toList
  rw [List.toList_toArray, list_byteAt s, ul]
  refine List.map_congr_left (fun i hi => ?_)
  have hi' : i < s.size := by simpa using hi
  have hb := (byteAt s i).toNat_lt
  rw [uf, (hxB_at s i hi').1, (hxB_at s i hi').2, hv_sg _ (by omega), hv_sg _ (by omega)]
  apply UInt8.toNat_inj.1
  rw [UInt8.toNat_ofNat']
  omega
theorem unhex_hex (s : ByteArray) (hs : s.size ≤ 70368744175616) (W : World) :
    Calls Try.prog 21 #[.string (hxB s)] W fun x w' => x = .returned (.tuple #[.string s, .int .i64 0, .int .i64 0]) ∧ Below W.heap.size W w' := by
  have hsz := hxB_size s
  refine unhex_good W (hxB s) _ ?_ (hxB_good s) (by omega)
  have e : (hxB s).size / 2 = s.size := by omega
  rw [if_neg (by omega), e, fill_ul, hxB_back]
set_option maxHeartbeats 1000000 in
theorem hexes_t (W : World) (s : ByteArray) (hs : s.size ≤ 70368744175616 - 4096) :
    Calls Try.prog 8 #[.string s] W fun e w' => e = .returned (.bool true) ∧ Below W.heap.size W w' := by
  obtain ⟨S, p, er, h21, h22⟩ := both s (by omega)
  have hx21 := unhex_hex s (by omega)
  obtain ⟨x, hx⟩ : ∃ x, x = hxB s := ⟨_, rfl⟩
  rw [← hx] at hx21
  have hhx : (⟨(Ytooakkelinaelaa.hx s s.size).toArray⟩ : ByteArray) = x := hx.symm
  have H21 := Lib.hid h21; have H22 := Lib.hid h22; have HX21 := Lib.hid hx21; have HHX := Lib.hid hhx
  clear h21 h22 hx21 hhx hx
  go_enter Try.func8, Try.ntmps8
  go_wp2_with fail
  refine (hex_t W s (by omega)).mono ?_
  rintro e w1 ⟨rfl, hb1⟩
  have HB1 := Lib.hid hb1; clear hb1
  rw [HHX.out]
  go_wp2_with fail
  refine (H21.out w1).mono ?_
  rintro e w2 ⟨rfl, hb2⟩
  have HB2 := Lib.hid (HB1.out.trans (hb2.mono HB1.out.size)); clear hb2
  go_wp2_with fail
  refine (H22.out w2).mono ?_
  rintro e w3 ⟨rfl, hb3⟩
  have HB3 := Lib.hid (HB2.out.trans (hb3.mono HB2.out.size)); clear hb3
  go_wp2_with fail
  refine (HX21.out w3).mono ?_
  rintro e w4 ⟨rfl, hb4⟩
  have HB4 := Lib.hid (HB3.out.trans (hb4.mono HB3.out.size)); clear hb4
  go_wp2_with fail
  refine (wakes_t w4).mono ?_
  rintro e w5 ⟨rfl, hb5⟩
  have HB5 := Lib.hid (HB4.out.trans (hb5.mono HB4.out.size)); clear hb5
  go_wp2_with fail
  refine (rhex_t w5 s (by omega)).mono ?_
  rintro e w6 ⟨rfl, hb6⟩
  have HB6 := Lib.hid (HB5.out.trans (hb6.mono HB5.out.size)); clear hb6
  rw [HHX.out]
  go_wp2_with fail
  go_ret
  exact ⟨rfl, HB6.out⟩
end Go.Proofs.Ytooakkelinaelaa
