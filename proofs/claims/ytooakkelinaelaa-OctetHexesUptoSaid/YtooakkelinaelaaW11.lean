/- octet.Hex. -/
import Derived.Test.YtooakkelinaelaaW1
import Derived.Test.YtooakkelinaelaaW5
namespace Go.Proofs.Ytooakkelinaelaa
open Go.RowKit
attribute [local go_sem] setCell_drewN alloc_drewN b64_byte
/-- the sign of half a byte -/
def sg (n : Nat) : UInt8 := if n < 10 then UInt8.ofNat (48 + n) else UInt8.ofNat (87 + n)
/-- the signs of the first k bytes -/
def hx (s : ByteArray) : Nat → List UInt8
  | 0 => []
  | k + 1 => hx s k ++ [sg ((byteAt s k).toNat / 16), sg ((byteAt s k).toNat % 16)]
theorem hx_length (s : ByteArray) (k : Nat) : (hx s k).length = 2 * k := by
  induction k with
  | zero => rfl
  | succ k ih => rw [hx, List.length_append, ih]; rfl
theorem dig_at (n : Nat) (h : n < 16) (h' : n < (⟨#[48, 49, 50, 51, 52, 53, 54, 55, 56, 57, 97, 98, 99, 100, 101, 102]⟩ : ByteArray).size) : (⟨#[48, 49, 50, 51, 52, 53, 54, 55, 56, 57, 97, 98, 99, 100, 101, 102]⟩ : ByteArray)[n] = sg n := by
  have hall : ∀ m : Fin 16, (⟨#[48, 49, 50, 51, 52, 53, 54, 55, 56, 57, 97, 98, 99, 100, 101, 102]⟩ : ByteArray)[m.val]'m.isLt = sg m.val := by decide
  exact hall ⟨n, h⟩
theorem and15 (b : UInt8) : bits .and .u8 ((b.toNat : Nat) : Int) 15 = ((b.toNat : Nat) : Int) % 16 := by
  have h1 := u8_and_nat b.toNat 15 b.toNat_lt (by decide)
  have h2 : b.toNat &&& 15 = b.toNat % 16 := Nat.and_two_pow_sub_one_eq_mod b.toNat 4
  rw [h2] at h1
  exact h1.trans (by simp)
attribute [local go_sem] and15
set_option maxRecDepth 100000 in
set_option maxHeartbeats 400000 in
theorem hex_t (W : World) (s : ByteArray) (hs : s.size ≤ 70368744175616) :
    Calls Try.prog 20 #[.string s] W fun e w' => e = .returned (.string ⟨(hx s s.size).toArray⟩) ∧ Below W.heap.size W w' := by
  go_enter Try.func20, Try.ntmps20
  go_wp2
  go_loopw [4, 7, 12, 13, 14, 15, 18, 19, 20, 21] (fun _ i _ _ _ _ _ _ _ _ wr => ∃ k : Nat, k ≤ s.size ∧ i = .int .i64 k ∧ Lib.IsBuilder 48 5 W.heap.size W.heap.size (u8l (hx s k)) wr ∧ Below W.heap.size W wr) (fun _ i _ _ _ _ _ _ _ _ _ => s.size - (intOf i).toNat)
  case atStart => exact ⟨0, by omega, rfl, Lib.fresh_isBuilder 48 5 W, (Below.refl _ _).alloc (Nat.le_refl _) _⟩
  case round =>
    obtain ⟨k, hk, rfl, hb, hbl⟩ := hrel
    have HB := Lib.hid hb; have HL := Lib.hid hbl
    clear hb hbl
    by_cases hlt : k < s.size
    · have hb := s[k].toNat_lt
      have hb1 : s[k].toNat < 256 := by omega
      have hb2 : s[k].toNat / 16 < 16 := by omega
      have hb3 : ((s[k].toNat : Nat) : Int) / 16 < 16 := by omega
      have hb4 : s[k].toNat % 16 < 16 := by omega
      have hb5 : ((s[k].toNat : Nat) : Int) % 16 < 16 := by omega
      have hx1 := hx_length s k
      have HX : Hid (hx s (k + 1) = (hx s k ++ [sg (s[k].toNat / 16)]) ++ [sg (s[k].toNat % 16)]) := by
        rw [byteAt_get s k hlt]; show hx s k ++ _ = _; simp
      have HLEN := Lib.hid hx1
      clear hx1
      go_wp2_with fail
      rw [dig_at _ hb2]
      refine (writeByte_t W.heap.size W.heap.size (u8l (hx s k)) _ wr HB.out (by simp only [u8l, List.length_map, HLEN.out]; omega) HL.out.size).mono ?_
      rintro e w1 ⟨rfl, h1, hb1'⟩
      rw [u8l_snoc] at h1
      have H1 := Lib.hid h1; have HB1 := Lib.hid hb1'
      clear h1 hb1'
      go_wp2_with fail
      rw [dig_at _ hb4]
      refine (writeByte_t W.heap.size W.heap.size _ _ w1 (.inr H1.out) (by simp only [u8l, List.length_map, List.length_append, List.length_cons, List.length_nil, HLEN.out]; omega) (Nat.le_trans HL.out.size HB1.out.size)).mono ?_
      rintro e w2 ⟨rfl, h2, hb2'⟩
      rw [u8l_snoc] at h2
      have H2 := Lib.hid h2; have HB2 := Lib.hid hb2'
      clear h2 hb2'
      go_wp2
      refine ⟨⟨k + 1, by omega, by go_num, ?_, HL.out.trans (HB1.out.trans HB2.out)⟩, by simp [intOf]; omega⟩
      rw [HX]
      exact .inr H2.out
    · obtain rfl : k = s.size := by omega
      go_wp2_with fail
      refine (Try.Builder_String_any W.heap.size W.heap.size (hx s s.size) wr HB.out HL.out.size).mono ?_
      rintro e w1 ⟨rfl, hb1⟩
      go_wp2
      go_ret
      exact ⟨rfl, HL.out.trans hb1⟩
end Go.Proofs.Ytooakkelinaelaa
