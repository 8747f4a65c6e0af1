/- THE WALK OF pyxisref01.Xor. -/
import Derived.Test.YtooakkelinaelaaProg
import Derived.Test.YtooakkelinaelaaBv
import Derived.WalkLawsBesides
import Derived.WalkSpells
import Derived.Lib.Hide
import Derived.Deep.AppendLies
import Derived.Deep.RegionLaw
namespace Go.Proofs.Ytooakkelinaelaa
open Go.RowKit
attribute [local go_sem] setCell_drewN alloc_drewN
theorem info5 : (Try.prog.info? 5).map (fun i => (i.zero, i.size, i.bytes)) = some (some (.int .u8 0), 1, 1) := by kernel_rfl
/-- both, bit by bit -/
def xorL (a b : ByteArray) : List UInt8 := List.zipWith (· ^^^ ·) a.data.toList b.data.toList
theorem xorL_snoc (a b : ByteArray) (k : Nat) (ha : k < a.size) (hb : k < b.size) : (xorL a b).take (k + 1) = (xorL a b).take k ++ [a[k] ^^^ b[k]] := by
  have ha' : k < a.data.toList.length := by simpa using ha
  have hb' : k < b.data.toList.length := by simpa using hb
  have hl : k < (xorL a b).length := by unfold xorL; rw [List.length_zipWith]; omega
  rw [List.take_succ_eq_append_getElem hl]
  congr 2
  exact List.getElem_zipWith ..
theorem byte_xor (x y : UInt8) : bits .xor .u8 ((x.toNat : Nat) : Int) ((y.toNat : Nat) : Int) = (((x ^^^ y).toNat : Nat) : Int) := by
  rw [u8_xor_nat _ _ x.toNat_lt y.toNat_lt, UInt8.toNat_xor]
attribute [local go_sem] byte_xor
set_option maxRecDepth 100000 in
set_option maxHeartbeats 400000 in
theorem rxor_t (w : World) (a b : ByteArray) (ha : a.size ≤ 140737488351232) (hb : b.size ≤ 140737488351232) :
    Calls Try.prog 11 #[.string a, .string b] w fun e w' => e = .returned (.string ⟨(xorL a b).toArray⟩) ∧ Below w.heap.size w w' := by
  obtain ⟨i0, hi, hz0, hz1, hz2⟩ := info_parts info5
  have HI := Lib.hid hi; have HZ0 := Lib.hid hz0; have HZ1 := Lib.hid hz1; have HZ2 := Lib.hid hz2
  clear hi hz0 hz1 hz2
  go_enter Try.func11, Try.ntmps11
  go_wp2
  go_loopw [5, 6] (fun v i wr => ∃ k : Nat, k ≤ a.size ∧ k ≤ b.size ∧ i = .int .i64 k ∧ wr.ownsRow w.heap.size 5 1 v k (u8l ((xorL a b).take k)) ∧ Below w.heap.size w wr) (fun _ i _ => a.size - (intOf i).toNat)
  case atStart => exact ⟨0, by omega, by omega, rfl, World.ownsRow_nil _ _ _ _, Below.refl _ _⟩
  case round =>
    obtain ⟨k, hka, hkb, rfl, hown, hbl⟩ := hrel
    have HO := Lib.hid hown; have HB := Lib.hid hbl
    clear hown hbl
    by_cases hlt : k < a.size
    · have t1 : decide ((k : Int) < (a.size : Int)) = true := by simp; omega
      by_cases hlb : k < b.size
      · have t2 : decide ((k : Int) < (b.size : Int)) = true := by simp; omega
        have h1 := xorL_snoc a b k hlt hlb
        have H1 : Hid (u8l ((xorL a b).take (k + 1)) = u8l ((xorL a b).take k) ++ [.int .u8 ((a[k].toNat ^^^ b[k].toNat : Nat) : Int)]) := by
          rw [h1, ← u8l_snoc, UInt8.toNat_xor]; rfl
        clear h1
        go_wp2
        go_region_law ((refine step_append_lies _ rfl (.tmp 19) (.tmp 27) 44 rfl w.heap.size 5 i0 (.int .u8 0) 1 1 Try.underlying44 HI.out HZ0.out HZ1.out HZ2.out rfl (by decide) u5 k _ rfl ((HO.out.alloc _).drew) ⟨wr.heap.size, 0, none⟩ 1 1 [.int .u8 ((a[k].toNat ^^^ b[k].toNat : Nat) : Int)] rfl rfl (by exact cell_one_new _ _ _) (by simp [Value.oneCell']) (by decide) (by unfold maxLen; omega) (by omega) (by have := HB.out.size; simp; omega) _ rfl ?_; intro g cap w1 hown1 hgrow _ _; have HO1 := Lib.hid hown1; have HG := Lib.hid hgrow; clear hown1 hgrow))
        all_goals
          go_wp2
          refine ⟨⟨k + 1, by omega, by omega, by go_num, ?_, ?_⟩, by simp [intOf]; omega⟩
          · rw [H1.out]; exact HO1.out
          · exact ((HB.out.alloc HB.out.size _).drew).grown HG.out (by have := HB.out.size; simp; omega) (fun r hr => (HO.out.lt r hr).1)
      · have t2 : decide ((k : Int) < (b.size : Int)) = false := by simp; omega
        have hk : (xorL a b).take k = xorL a b := List.take_of_length_le (by unfold xorL; rw [List.length_zipWith]; simp; omega)
        have ho := HO.out
        rw [hk] at ho
        have hconv := run_conv_own (P := Try.prog) 44 9 Try.underlying44 Try.underlying5 Try.underlying9 ho
        clear hk ho
        go_wp2
        go_ret
        exact ⟨rfl, HB.out⟩
    · have t1 : decide ((k : Int) < (a.size : Int)) = false := by simp; omega
      have hk : (xorL a b).take k = xorL a b := List.take_of_length_le (by unfold xorL; rw [List.length_zipWith]; simp; omega)
      have ho := HO.out
      rw [hk] at ho
      have hconv := run_conv_own (P := Try.prog) 44 9 Try.underlying44 Try.underlying5 Try.underlying9 ho
      clear hk ho
      go_wp2
      go_ret
      exact ⟨rfl, HB.out⟩
end Go.Proofs.Ytooakkelinaelaa
