/- pyxisref01.Unhex. -/
import Derived.Test.YtooakkelinaelaaW15
namespace Go.Proofs.Ytooakkelinaelaa
open Go.RowKit
attribute [local go_sem] setCell_drewN alloc_drewN
/-- the first k bytes that signs tell -/
def ul (s : ByteArray) (k : Nat) : List UInt8 := (List.range k).map (uf s)
theorem ul_snoc (s : ByteArray) (k : Nat) : ul s (k + 1) = ul s k ++ [uf s k] := by simp [ul, List.range_succ]
set_option maxRecDepth 100000 in
set_option maxHeartbeats 400000 in
theorem runhex_bad (W : World) (s : ByteArray) (m : Nat) (hm : firstBad s m) (hs : s.size ≤ 140737488351232) :
    Calls Try.prog 22 #[.string s] W fun e w' => e = .returned (.tuple #[.string ByteArray.empty, .int .i64 (m : Nat), .int .i64 9]) ∧ Below W.heap.size W w' := by
  obtain ⟨hm1, hm2, hm3⟩ := hm
  have HM2 := Lib.hid hm2; have HM3 := Lib.hid hm3
  clear hm2 hm3
  go_enter Try.func22, Try.ntmps22
  go_wp2
  go_loopw [5] (fun i wr => ∃ k : Nat, k ≤ m ∧ i = .int .i64 k ∧ W = wr) (fun i _ => s.size - (intOf i).toNat)
  case atStart => exact ⟨0, by omega, rfl, rfl⟩
  case round =>
    obtain ⟨k, hk, rfl, rfl⟩ := hrel
    have hks : k < s.size := by omega
    obtain ⟨c, hc⟩ : ∃ c, c = byteAt s k := ⟨_, rfl⟩
    have hsk : s[k] = c := by rw [hc]; exact byteAt_get s k hks
    have HC := Lib.hid hc
    clear hc
    go_wp2_with fail
    refine (half_t c _).mono ?_
    rintro e w1 ⟨rfl, rfl⟩
    by_cases hlt : k < m
    · have h16 : hv c < 16 := by rw [HC.out]; exact HM2.out k hlt
      obtain ⟨h, hh⟩ : ∃ h, h = hv c := ⟨_, rfl⟩
      rw [← hh] at h16 ⊢
      have HH := Lib.hid hh
      clear hh
      go_wp2
      refine ⟨⟨k + 1, by omega, by go_num, by first | trivial | rfl⟩, by simp [intOf]; omega⟩
    · have hkm : k = m := by omega
      have h16 : 16 ≤ hv c := by rw [HC.out, hkm]; have := HM3.out; omega
      obtain ⟨h, hh⟩ : ∃ h, h = hv c := ⟨_, rfl⟩
      rw [← hh] at h16 ⊢
      have HH := Lib.hid hh
      clear hsk hh
      subst hkm
      go_wp2
      go_ret3
      exact ⟨rfl, Below.refl _ _⟩
set_option maxRecDepth 100000 in
set_option maxHeartbeats 1000000 in
theorem runhex_good (W : World) (s : ByteArray) (R : Array Value) (hR : R = if s.size % 2 = 1 then #[.string ByteArray.empty, .int .i64 (s.size : Nat), .int .i64 9] else #[.string ⟨(ul s (s.size / 2)).toArray⟩, .int .i64 0, .int .i64 0]) (hg : ∀ i, i < s.size → hv (byteAt s i) < 16) (hs : s.size ≤ 140737488351232) :
    Calls Try.prog 22 #[.string s] W fun e w' => e = .returned (.tuple R) ∧ Below W.heap.size W w' := by
  obtain ⟨i0, hi, hz0, hz1, hz2⟩ := info_parts info5
  have HI := Lib.hid hi; have HZ0 := Lib.hid hz0; have HZ1 := Lib.hid hz1; have HZ2 := Lib.hid hz2
  clear hi hz0 hz1 hz2
  have HG := Lib.hid hg; have HR := Lib.hid hR
  clear hg hR
  go_enter Try.func22, Try.ntmps22
  go_wp2
  go_loopw [5] (fun i wr => ∃ k : Nat, k ≤ s.size ∧ i = .int .i64 k ∧ W = wr) (fun i _ => s.size - (intOf i).toNat)
  case atStart => exact ⟨0, by omega, rfl, rfl⟩
  case round =>
    obtain ⟨k, hk, rfl, rfl⟩ := hrel
    by_cases hlt : k < s.size
    · obtain ⟨c, hc⟩ : ∃ c, c = byteAt s k := ⟨_, rfl⟩
      have hsk : s[k] = c := by rw [hc]; exact byteAt_get s k hlt
      have h16 : hv c < 16 := by rw [hc]; exact HG.out k hlt
      have HC := Lib.hid hc
      clear hc
      go_wp2_with fail
      refine (half_t c _).mono ?_
      rintro e w1 ⟨rfl, rfl⟩
      obtain ⟨h, hh⟩ : ∃ h, h = hv c := ⟨_, rfl⟩
      rw [← hh] at h16 ⊢
      have HH := Lib.hid hh
      clear hh
      go_wp2
      refine ⟨⟨k + 1, by omega, by go_num, by first | trivial | rfl⟩, by simp [intOf]; omega⟩
    · obtain rfl : k = s.size := by omega
      by_cases hodd : s.size % 2 = 1
      · have t1 : ((s.size : Int) % 2 == 1) = true := by rw [beq_iff_eq]; omega
        have t2 : ((s.size : Int).tmod 2 == 1) = true := by rw [beq_iff_eq, Int.tmod_eq_emod_of_nonneg (by omega)]; omega
        have HO := Lib.hid hodd
        clear hodd
        go_wp2
        go_ret3
        exact ⟨by rw [HR.out, if_pos HO.out]; rfl, Below.refl _ _⟩
      · obtain ⟨d, hd⟩ : ∃ d, s.size = 2 * d := ⟨s.size / 2, by omega⟩
        have t1 : ((s.size : Int) % 2 == 1) = false := by rw [beq_eq_false_iff_ne]; omega
        have t2 : ((s.size : Int).tmod 2 == 1) = false := by rw [beq_eq_false_iff_ne, Int.tmod_eq_emod_of_nonneg (by omega)]; omega
        have hR2 : R = #[.string ⟨(ul s d).toArray⟩, .int .i64 0, .int .i64 0] := by
          have e : s.size / 2 = d := by omega
          rw [HR.out, if_neg hodd, e]
        have HR2 := Lib.hid hR2; have HD := Lib.hid hd
        clear hodd hR2 hd
        go_wp2
        go_loopw [6, 7] (fun v i wr => ∃ k p : Nat, p = 2 * k ∧ k ≤ d ∧ i = .int .i64 (p : Int) ∧ wr.ownsRow W.heap.size 5 1 v k (u8l (ul s k)) ∧ Below W.heap.size W wr) (fun _ i _ => s.size - (intOf i).toNat)
        case atStart => exact ⟨0, 0, rfl, by omega, rfl, World.ownsRow_nil _ _ _ _, Below.refl _ _⟩
        case round =>
          obtain ⟨k, p, hp, hk, rfl, hown, hbl⟩ := hrel
          have HO := Lib.hid hown; have HB := Lib.hid hbl
          clear hown hbl
          by_cases hlt : k < d
          · have hsz : s.size = 2 * d := HD.out
            have g0 : p < s.size := by omega
            have g1 : p + 1 < s.size := by omega
            have e1 := byteAt_get s p g0
            have e2 := byteAt_get s (p + 1) g1
            have fw : IntKind.i64.wrap ((p : Int) + 1) = (p : Int) + 1 := IntWalk.i64_in _ (by omega)
            have fw2 : IntKind.i64.wrap ((p : Int) + 2) = (p : Int) + 2 := IntWalk.i64_in _ (by omega)
            have hkb : k < 140737488351232 := by omega
            have f3 : IntKind.u8.wrap (((uf s k).toNat : Nat) : Int) = (((uf s k).toNat : Nat) : Int) := by
              have := (uf s k).toNat_lt
              rw [IntKind.wrap_u8]; omega
            have fi1 : (0 : Int) ≤ (p : Int) + 1 := by omega
            have fi2 : (p : Int) + 1 < (s.size : Int) := by omega
            have HP := Lib.hid hp
            have h1 := HG.out p g0
            have h2 := HG.out (p + 1) g1
            obtain ⟨c1, hc1⟩ : ∃ c, c = byteAt s p := ⟨_, rfl⟩
            obtain ⟨c2, hc2⟩ : ∃ c, c = byteAt s (p + 1) := ⟨_, rfl⟩
            rw [← hc1] at e1 h1
            rw [← hc2] at e2 h2
            have hu : (uf s k).toNat = 16 * hv c1 + hv c2 := by rw [uf, ← hp, ← hc1, ← hc2, UInt8.toNat_ofNat']; omega
            obtain ⟨x, hx⟩ : ∃ x, x = hv c1 := ⟨_, rfl⟩
            obtain ⟨z, hz⟩ : ∃ z, z = hv c2 := ⟨_, rfl⟩
            rw [← hx] at h1 hu
            rw [← hz] at h2 hu
            have q1 := half_t c1
            have q2 := half_t c2
            rw [← hx] at q1
            rw [← hz] at q2
            have f0 : (16 * (x : Int) + (z : Int)) = (((uf s k).toNat : Nat) : Int) := by omega
            have f1 : IntKind.u8.wrap (16 * (x : Int)) = 16 * (x : Int) := by rw [IntKind.wrap_u8]; omega
            have f2 : IntKind.u8.wrap (16 * (x : Int) + (z : Int)) = (((uf s k).toNat : Nat) : Int) := by rw [IntKind.wrap_u8]; omega
            have H1 : Hid (u8l (ul s (k + 1)) = u8l (ul s k) ++ [.int .u8 (((uf s k).toNat : Nat) : Int)]) := by
              rw [ul_snoc, ← u8l_snoc]; exact rfl
            have Q1 := Lib.hid q1; have Q2 := Lib.hid q2; have HC1 := Lib.hid hc1; have HC2 := Lib.hid hc2; have HX := Lib.hid hx; have HZ := Lib.hid hz; have HU := Lib.hid hu
            clear q1 q2 hc1 hc2 hx hz hu hsz hp
            go_wp2
            go_region_law ((first
              | (refine step_call rfl 27 (.tmp 35) 5 rfl Try.f27 Try.func27 (by kernel_rfl) (by kernel_rfl) (.int .u8 ((c1.toNat : Nat) : Int)) rfl _ (Q1.out _) ?_)
              | (refine step_call rfl 27 (.tmp 41) 5 rfl Try.f27 Try.func27 (by kernel_rfl) (by kernel_rfl) (.int .u8 ((c2.toNat : Nat) : Int)) rfl _ (Q2.out _) ?_)
              | (refine step_append_lies _ rfl (.tmp 32) (.tmp 44) 44 rfl W.heap.size 5 i0 (.int .u8 0) 1 1 Try.underlying44 HI.out HZ0.out HZ1.out HZ2.out rfl (by decide) u6 k _ rfl ((HO.out.alloc _).drew) ⟨wr.heap.size, 0, none⟩ 1 1 [.int .u8 (((uf s k).toNat : Nat) : Int)] rfl rfl (by exact cell_one_new _ _ _) (by simp [Value.oneCell']) (by decide) (by unfold maxLen; omega) (by omega) (by have := HB.out.size; simp; omega) _ rfl ?_; intro g cap w1 hown1 hgrow _ _; have HO1 := Lib.hid hown1; have HG1 := Lib.hid hgrow; clear hown1 hgrow)))
            all_goals
              go_wp2
              refine ⟨⟨k + 1, p + 2, by have := HP.out; omega, by omega, by go_num, ?_, ?_⟩, by simp [intOf]; omega⟩
              · rw [H1]; exact HO1.out
              · exact ((HB.out.alloc HB.out.size _).drew).grown HG1.out (by have := HB.out.size; simp; omega) (fun r hr => (HO.out.lt r hr).1)
          · obtain rfl : k = d := by omega
            have hsz : s.size = 2 * k := HD.out
            obtain rfl : p = s.size := by omega
            have hconv := run_conv_own (P := Try.prog) 44 9 Try.underlying44 Try.underlying5 Try.underlying9 HO.out
            go_wp2
            go_ret3
            exact ⟨by rw [HR2.out]; rfl, HB.out⟩
end Go.Proofs.Ytooakkelinaelaa
