/- pyxisref01.Put. -/
import Derived.Test.YtooakkelinaelaaW6
namespace Go.Proofs.Ytooakkelinaelaa
open Go.RowKit
attribute [local go_sem] setCell_drewN alloc_drewN byte_shr byte_shr'
theorem rput_wide (W : World) (n : Nat) (w : Int) (hw : w < 1 ∨ ¬ w < 1 ∧ 8 < w) :
    Calls Try.prog 17 #[.int .u64 (n : Nat), .int .i64 w] W fun e w' => e = .returned (.tuple #[.string ByteArray.empty, .int .i64 2]) ∧ Below W.heap.size W w' := by
  rcases hw with h | ⟨h, h2⟩
  all_goals
    go_enter Try.func17, Try.ntmps17
    go_wp2
    go_ret2
    exact ⟨rfl, Below.refl _ _⟩
theorem own_below {w w' : World} {base e size n : Nat} {v : Value} {xs : List Value} (h : w.ownsRow base e size v n xs) (hb : Below w.heap.size w w') : w'.ownsRow base e size v n xs :=
  h.kept (row := none) ⟨hb.os, hb.tape, hb.output, hb.size, fun k hk _ => hb.block k hk⟩ (by cases hv : v.ownBlock <;> simp)
theorem getN_tbs (n w : Nat) (h1 : 1 ≤ w) (h8 : w ≤ 8) : getN (tbs n w) = gv (tbs n w) w := by
  simp only [getN, tbs_size]
  rw [if_pos ⟨h1, h8⟩]
theorem rput_in (W : World) (n w : Nat) (h1 : 1 ≤ w) (h8 : w ≤ 8) (hn : n < 18446744073709551616) :
    Calls Try.prog 17 #[.int .u64 (n : Nat), .int .i64 (w : Nat)] W fun e w' => e = .returned (.tuple #[.string (putS n w), .int .i64 (putE n w)]) ∧ Below W.heap.size W w' := by
  obtain ⟨i0, hi, hz0, hz1, hz2⟩ := info_parts info5
  have HI := Lib.hid hi; have HZ0 := Lib.hid hz0; have HZ1 := Lib.hid hz1; have HZ2 := Lib.hid hz2
  clear hi hz0 hz1 hz2
  go_enter Try.func17, Try.ntmps17
  go_wp2
  go_loopw [6, 7] (fun v i wr => ∃ k : Nat, k ≤ w ∧ i = .int .i64 k ∧ wr.ownsRow W.heap.size 5 1 v k (u8l ((tb n w).take k)) ∧ Below W.heap.size W wr) (fun _ i _ => w - (intOf i).toNat)
  case atStart => exact ⟨0, by omega, rfl, World.ownsRow_nil _ _ _ _, Below.refl _ _⟩
  case round =>
    obtain ⟨k, hk, rfl, hown, hbl⟩ := hrel
    have HO := Lib.hid hown; have HB := Lib.hid hbl
    clear hown hbl
    by_cases hlt : k < w
    · obtain ⟨d, hd⟩ : ∃ d, d = w - 1 - k := ⟨_, rfl⟩
      have t2 : (w : Int) - 1 - (k : Int) = (d : Int) := by omega
      have t3 : d < w := by omega
      have H1 : Hid (u8l ((tb n w).take (k + 1)) = u8l ((tb n w).take k) ++ [.int .u8 (((bt n (8 * d)).toNat : Nat) : Int)]) := by
        rw [tb_snoc n w k hlt, ← u8l_snoc, hd]; exact rfl
      have HD := Lib.hid hd
      clear hd
      go_wp2_with (at_builtin; refine wpList_append_own _ rfl _ _ 44 rfl W.heap.size 5 i0 (.int .u8 0) 1 1 Try.underlying44 HI.out HZ0.out HZ1.out HZ2.out rfl (by decide) _ _ _ rfl (HO.out.alloc _) ⟨wr.heap.size, 0, none⟩ 1 1 [.int .u8 (((bt n (8 * d)).toNat : Nat) : Int)] rfl rfl ?c1 ?c2 ?c3 ?c4 ?c5 ?_)
      case c1 =>
        intro j u hj
        match j, hj with
        | 0, hj => simp at hj; subst hj; simp [Addr.add]
      case c2 => intro u hu; simp at hu; subst hu; rfl
      case c3 => unfold maxLen; omega
      case c4 => omega
      case c5 => have := HB.out.size; simp; omega
      intro v' w2 hown' hgrow _
      have HO1 := Lib.hid hown'; have HG := Lib.hid hgrow
      clear hown' hgrow
      go_wp2
      refine ⟨⟨k + 1, by omega, by go_num, ?_, ?_⟩, by simp [intOf]; omega⟩
      · rw [H1]; exact HO1.out
      · exact (HB.out.alloc HB.out.size _).grown HG.out (by have := HB.out.size; simp; omega) (fun r hr => (HO.out.lt r hr).1)
    · obtain rfl : k = w := by omega
      have ho := HO.out
      rw [List.take_of_length_le (by rw [tb_length]; exact Nat.le_refl _)] at ho
      have hconv := run_conv_own (P := Try.prog) 44 9 Try.underlying44 Try.underlying5 Try.underlying9 ho
      have hcs : ∀ x : ByteArray, x = ⟨(tb n k).toArray⟩ → x = tbs n k := fun _ h => h
      rw [hcs _ rfl] at hconv
      clear ho hcs
      go_wp2_with fail
      refine (rget_t wr (tbs n k) (by rw [tbs_size]; omega)).mono ?_
      rintro e w1 ⟨rfl, hb1⟩
      have HB1 := Lib.hid hb1
      clear hb1
      rw [getN_tbs n k h1 h8]
      by_cases hz : k = 8 ∨ n / 2 ^ (8 * k) = 0
      · have hg := (gv_tb_all n k hn h8).2 hz
        have hp : putOk n (k : Int) = true := by
          simp only [putOk, Bool.and_eq_true, Bool.or_eq_true, decide_eq_true_eq, Int.toNat_natCast]
          refine ⟨⟨by omega, by omega⟩, ?_⟩
          rcases hz with h | h
          · left; omega
          · right; exact h
        have t1 : (((gv (tbs n k) k : Nat) : Int) != (n : Int)) = false := by rw [hg]; simp
        have e1 : putS n (k : Int) = tbs n k := by simp only [putS, hp, if_true, Int.toNat_natCast]
        have e2 : putE n (k : Int) = 0 := by simp only [putE, hp, if_true]
        have E1 := Lib.hid e1; have E2 := Lib.hid e2
        clear e1 e2 hp hg hz hconv
        have ho := own_below HO.out HB1.out
        rw [List.take_of_length_le (by rw [tb_length]; exact Nat.le_refl _)] at ho
        have hconv := run_conv_own (P := Try.prog) 44 9 Try.underlying44 Try.underlying5 Try.underlying9 ho
        have hcs : ∀ x : ByteArray, x = ⟨(tb n k).toArray⟩ → x = tbs n k := fun _ h => h
        rw [hcs _ rfl] at hconv
        clear ho hcs
        go_wp2
        go_ret2
        exact ⟨by rw [E1.out, E2.out]; rfl, HB.out.trans (HB1.out.mono HB.out.size)⟩
      · have hg : ¬ gv (tbs n k) k = n := fun h => hz ((gv_tb_all n k hn h8).1 h)
        have hp : putOk n (k : Int) = false := by
          simp only [putOk, Bool.and_eq_false_iff, Bool.or_eq_false_iff, decide_eq_false_iff_not, Int.toNat_natCast]
          right
          exact ⟨fun h => hz (.inl (by omega)), fun h => hz (.inr h)⟩
        have t1 : (((gv (tbs n k) k : Nat) : Int) != (n : Int)) = true := by simp only [bne_iff_ne]; omega
        have e1 : putS n (k : Int) = ByteArray.empty := by simp only [putS, hp, Bool.false_eq_true, if_false]
        have e2 : putE n (k : Int) = 2 := by simp only [putE, hp, Bool.false_eq_true, if_false]
        have E1 := Lib.hid e1; have E2 := Lib.hid e2
        clear e1 e2 hp hg hz hconv
        go_wp2
        go_ret2
        exact ⟨by rw [E1.out, E2.out]; rfl, HB.out.trans (HB1.out.mono HB.out.size)⟩
theorem rput_t (W : World) (n : Nat) (w : Int) (hn : n < 18446744073709551616) :
    Calls Try.prog 17 #[.int .u64 (n : Nat), .int .i64 w] W fun e w' => e = .returned (.tuple #[.string (putS n w), .int .i64 (putE n w)]) ∧ Below W.heap.size W w' := by
  by_cases hr : 1 ≤ w ∧ w ≤ 8
  · obtain ⟨k, rfl⟩ : ∃ k : Nat, w = (k : Int) := ⟨w.toNat, by omega⟩
    exact rput_in W n k (by omega) (by omega) hn
  · have hp : putOk n w = false := by
      simp only [putOk, Bool.and_eq_false_iff, decide_eq_false_iff_not]
      left; omega
    simp only [putS, putE, hp, Bool.false_eq_true, if_false]
    exact rput_wide W n w (by omega)
end Go.Proofs.Ytooakkelinaelaa
