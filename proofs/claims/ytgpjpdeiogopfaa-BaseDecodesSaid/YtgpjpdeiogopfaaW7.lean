/- pyxisref14.Decode. -/
import Derived.Test.YtgpjpdeiogopfaaW6
namespace Go.Proofs.Ytgpjpdeiogopfaa
open Go.RowKit
attribute [local go_sem] setCell_drewN alloc_drewN b64_byte
theorem dbits_at (s : ByteArray) (i t : Nat) (ht : t < 6) : dbits s (6 * i + t) = num (byteAt s i) / 2 ^ (5 - t) % 2 := by
  unfold dbits strm bitOf
  have e1 : (6 * i + t) / 6 = i := by omega
  have e2 : (6 * i + t) % 6 = t := by omega
  rw [e1, e2]
set_option maxRecDepth 100000 in
set_option maxHeartbeats 1000000 in
theorem rdec_bad (W : World) (s : ByteArray) (M : Nat) (hm : firstBad s M) (hs : s.size ≤ 1048576) :
    Calls Try.prog 11 #[.string s] W fun e w' => e = .returned (.tuple #[.string ByteArray.empty, .int .i64 (M : Nat), .int .i64 9]) ∧ Below W.heap.size W w' := by
  obtain ⟨hM, hg, hm3⟩ := hm
  have HG := Lib.hid hg; have HM3 := Lib.hid hm3
  clear hg hm3
  obtain ⟨i0, hi, hz0, hz1, hz2⟩ := info_parts info5
  have HI := Lib.hid hi; have HZ0 := Lib.hid hz0; have HZ1 := Lib.hid hz1; have HZ2 := Lib.hid hz2
  clear hi hz0 hz1 hz2
  obtain ⟨i3, hi, hz0, hz1, hz2⟩ := info_parts info3
  have HI3 := Lib.hid hi; have HY0 := Lib.hid hz0; have HY1 := Lib.hid hz1; have HY2 := Lib.hid hz2
  clear hi hz0 hz1 hz2
  go_enter Try.func11, Try.ntmps11
  go_wp2
  go_loopw [5, 6, 7, 8] (fun v i _ _ wr => ∃ k : Nat, k ≤ M ∧ i = .int .i64 (k : Int) ∧ wr.ownsRow W.heap.size 3 1 v (6 * k) (bl (dbits s) (6 * k)) ∧ Below W.heap.size W wr) (fun _ i _ _ _ => s.size - (intOf i).toNat)
  case atStart => exact ⟨0, by omega, rfl, World.ownsRow_nil _ _ _ _, Below.refl _ _⟩
  case round =>
    obtain ⟨k, hk, rfl, hown, hbl⟩ := hrel
    have HO := Lib.hid hown; have HL := Lib.hid hbl
    clear hown hbl
    by_cases hlt : k < M
    · have hks : k < s.size := by omega
      have g0 : (k : Int) < (s.size : Int) := by omega
      obtain ⟨c, hc⟩ : ∃ c, c = byteAt s k := ⟨_, rfl⟩
      have hsk : s[k] = c := by rw [hc]; exact byteAt_get s k hks
      have h64 : num c < 64 := by rw [hc]; exact HG.out k (by omega)
      have HC := Lib.hid hc
      clear hc
      go_wp2_with fail
      refine (number_t c _).mono ?_
      rintro e w1 ⟨rfl, rfl⟩
      rw [if_pos h64]
      obtain ⟨m, hm⟩ : ∃ m, m = num c := ⟨_, rfl⟩
      rw [← hm] at h64 ⊢
      have f5 : (0 : Int) ≤ (m : Int) := by omega
      have HM := Lib.hid hm
      clear hm
      go_wp2
      go_loopw [5, 8] (fun v i wr => ∃ t : Nat, t ≤ 6 ∧ i = .int .i64 (5 - (t : Int)) ∧ wr.ownsRow W.heap.size 3 1 v (6 * k + t) (bl (dbits s) (6 * k + t)) ∧ Below W.heap.size W wr) (fun _ i _ => (intOf i + 1).toNat)
      case atStart => exact ⟨0, by omega, rfl, HO.out, HL.out⟩
      case round =>
        obtain ⟨t, ht, rfl, hown, hbl⟩ := hrel
        have HO := Lib.hid hown; have HL := Lib.hid hbl
        clear hown hbl
        by_cases ht8 : t < 6
        · have hbit := dbits_at s k t ht8
          rw [← HC.out, ← HM.out] at hbit
          obtain ⟨d, hd⟩ : ∃ d, d = 5 - t := ⟨_, rfl⟩
          rw [← hd] at hbit
          have g1 : (5 : Int) - (t : Int) = (d : Int) := by omega
          obtain ⟨x, hx⟩ : ∃ x, x = m / 2 ^ d := ⟨_, rfl⟩
          have hxc : x ≤ m := by rw [hx]; exact Nat.div_le_self _ _
          rw [← hx] at hbit
          have g2 : (m : Int) / 2 ^ d = (x : Int) := by rw [hx]; simp
          obtain ⟨y, hy⟩ : ∃ y, y = dbits s (6 * k + t) := ⟨_, rfl⟩
          have g3 : bits .and .i64 (x : Int) 1 = (y : Int) := by rw [and1 x (by omega), hy, hbit]
          have g4 : IntKind.u64.wrap (d : Int) = (d : Int) := by rw [IntKind.wrap_u64, Int.emod_eq_of_lt] <;> omega
          have g5 : d < 8 := by omega
          have H1 : Hid (bl (dbits s) (6 * k + t + 1) = bl (dbits s) (6 * k + t) ++ [.int .i64 (y : Int)]) := by rw [bl_snoc, ← hy]; exact rfl
          obtain ⟨N, hN⟩ : ∃ N, N = 6 * k + t := ⟨_, rfl⟩
          rw [← hN] at HO H1
          have hN2 : N < 8388616 := by omega
          have HD := Lib.hid hd; have HX := Lib.hid hx; have HY := Lib.hid hy; have HN := Lib.hid hN; have HXC := Lib.hid hxc
          clear hbit hd hx hy hN hxc
          go_wp2_with (at_builtin; refine wpList_append_own _ rfl _ _ 40 rfl W.heap.size 3 i3 (.int .i64 0) 1 8 Try.underlying40 HI3.out HY0.out HY1.out HY2.out rfl (by decide) _ _ _ rfl (HO.out.alloc _) ⟨wr.heap.size, 0, none⟩ 1 1 [.int .i64 (y : Int)] rfl rfl ?c1 ?c2 ?c3 ?c4 ?c5 ?_)
          case c1 =>
            intro j u hj
            match j, hj with
            | 0, hj => simp at hj; subst hj; simp [Addr.add]
          case c2 => intro u hu; simp at hu; subst hu; rfl
          case c3 => unfold maxLen; omega
          case c4 => omega
          case c5 => have := HL.out.size; simp; omega
          intro v' w2 hown' hgrow _
          have HO1 := Lib.hid hown'; have HGR := Lib.hid hgrow
          clear hown' hgrow
          go_wp2
          refine ⟨⟨t + 1, by omega, by simp only [Value.int.injEq, true_and]; omega, ?_, ?_⟩, by simp only [intOf]; omega⟩
          · rw [← Nat.add_assoc, ← HN.out, H1]; exact HO1.out
          · exact (HL.out.alloc HL.out.size _).grown HGR.out (by have := HL.out.size; simp; omega) (fun r hr => (HO.out.lt r hr).1)
        · obtain rfl : t = 6 := by omega
          go_wp2
          exact ⟨⟨k + 1, by omega, by go_num, HO.out, HL.out⟩, by simp [intOf]; omega⟩
    · obtain rfl : k = M := by omega
      obtain ⟨c, hc⟩ : ∃ c, c = byteAt s k := ⟨_, rfl⟩
      have hsk : s[k] = c := by rw [hc]; exact byteAt_get s k (by omega)
      have h64 : ¬ num c < 64 := by rw [hc]; exact HM3.out
      have HC := Lib.hid hc
      clear hc
      go_wp2_with fail
      refine (number_t c _).mono ?_
      rintro e w1 ⟨rfl, rfl⟩
      rw [if_neg h64]
      clear h64 hsk HC
      go_wp2
      go_ret3
      exact ⟨rfl, HL.out⟩
set_option maxRecDepth 100000 in
set_option maxHeartbeats 2000000 in
theorem rdec_good (W : World) (s : ByteArray) (R : Array Value) (hR : R = if s.size % 4 = 1 then #[.string ByteArray.empty, .int .i64 (s.size : Nat), .int .i64 9] else if left s = 0 then #[.string (decB s), .int .i64 0, .int .i64 0] else #[.string ByteArray.empty, .int .i64 ((s.size : Nat) - 1), .int .i64 9]) (hg : allGood s) (hs : s.size ≤ 1048576) :
    Calls Try.prog 11 #[.string s] W fun e w' => e = .returned (.tuple R) ∧ Below W.heap.size W w' := by
  have HG := Lib.hid hg; have HR := Lib.hid hR
  clear hg hR
  obtain ⟨M, hM⟩ : ∃ M, M = s.size := ⟨_, rfl⟩
  obtain ⟨i0, hi, hz0, hz1, hz2⟩ := info_parts info5
  have HI := Lib.hid hi; have HZ0 := Lib.hid hz0; have HZ1 := Lib.hid hz1; have HZ2 := Lib.hid hz2
  clear hi hz0 hz1 hz2
  obtain ⟨i3, hi, hz0, hz1, hz2⟩ := info_parts info3
  have HI3 := Lib.hid hi; have HY0 := Lib.hid hz0; have HY1 := Lib.hid hz1; have HY2 := Lib.hid hz2
  clear hi hz0 hz1 hz2
  go_enter Try.func11, Try.ntmps11
  go_wp2
  go_loopw [5, 6, 7, 8] (fun v i _ _ wr => ∃ k : Nat, k ≤ M ∧ i = .int .i64 (k : Int) ∧ wr.ownsRow W.heap.size 3 1 v (6 * k) (bl (dbits s) (6 * k)) ∧ Below W.heap.size W wr) (fun _ i _ _ _ => s.size - (intOf i).toNat)
  case atStart => exact ⟨0, by omega, rfl, World.ownsRow_nil _ _ _ _, Below.refl _ _⟩
  case round =>
    obtain ⟨k, hk, rfl, hown, hbl⟩ := hrel
    have HO := Lib.hid hown; have HL := Lib.hid hbl
    clear hown hbl
    by_cases hlt : k < M
    · have hks : k < s.size := by omega
      have g0 : (k : Int) < (s.size : Int) := by omega
      obtain ⟨c, hc⟩ : ∃ c, c = byteAt s k := ⟨_, rfl⟩
      have hsk : s[k] = c := by rw [hc]; exact byteAt_get s k hks
      have h64 : num c < 64 := by rw [hc]; exact HG.out k (by omega)
      have HC := Lib.hid hc
      clear hc
      go_wp2_with fail
      refine (number_t c _).mono ?_
      rintro e w1 ⟨rfl, rfl⟩
      rw [if_pos h64]
      obtain ⟨m, hm⟩ : ∃ m, m = num c := ⟨_, rfl⟩
      rw [← hm] at h64 ⊢
      have f5 : (0 : Int) ≤ (m : Int) := by omega
      have HM := Lib.hid hm
      clear hm
      go_wp2
      go_loopw [5, 8] (fun v i wr => ∃ t : Nat, t ≤ 6 ∧ i = .int .i64 (5 - (t : Int)) ∧ wr.ownsRow W.heap.size 3 1 v (6 * k + t) (bl (dbits s) (6 * k + t)) ∧ Below W.heap.size W wr) (fun _ i _ => (intOf i + 1).toNat)
      case atStart => exact ⟨0, by omega, rfl, HO.out, HL.out⟩
      case round =>
        obtain ⟨t, ht, rfl, hown, hbl⟩ := hrel
        have HO := Lib.hid hown; have HL := Lib.hid hbl
        clear hown hbl
        by_cases ht8 : t < 6
        · have hbit := dbits_at s k t ht8
          rw [← HC.out, ← HM.out] at hbit
          obtain ⟨d, hd⟩ : ∃ d, d = 5 - t := ⟨_, rfl⟩
          rw [← hd] at hbit
          have g1 : (5 : Int) - (t : Int) = (d : Int) := by omega
          obtain ⟨x, hx⟩ : ∃ x, x = m / 2 ^ d := ⟨_, rfl⟩
          have hxc : x ≤ m := by rw [hx]; exact Nat.div_le_self _ _
          rw [← hx] at hbit
          have g2 : (m : Int) / 2 ^ d = (x : Int) := by rw [hx]; simp
          obtain ⟨y, hy⟩ : ∃ y, y = dbits s (6 * k + t) := ⟨_, rfl⟩
          have g3 : bits .and .i64 (x : Int) 1 = (y : Int) := by rw [and1 x (by omega), hy, hbit]
          have g4 : IntKind.u64.wrap (d : Int) = (d : Int) := by rw [IntKind.wrap_u64, Int.emod_eq_of_lt] <;> omega
          have g5 : d < 8 := by omega
          have H1 : Hid (bl (dbits s) (6 * k + t + 1) = bl (dbits s) (6 * k + t) ++ [.int .i64 (y : Int)]) := by rw [bl_snoc, ← hy]; exact rfl
          obtain ⟨N, hN⟩ : ∃ N, N = 6 * k + t := ⟨_, rfl⟩
          rw [← hN] at HO H1
          have hN2 : N < 8388616 := by omega
          have HD := Lib.hid hd; have HX := Lib.hid hx; have HY := Lib.hid hy; have HN := Lib.hid hN; have HXC := Lib.hid hxc
          clear hbit hd hx hy hN hxc
          go_wp2_with (at_builtin; refine wpList_append_own _ rfl _ _ 40 rfl W.heap.size 3 i3 (.int .i64 0) 1 8 Try.underlying40 HI3.out HY0.out HY1.out HY2.out rfl (by decide) _ _ _ rfl (HO.out.alloc _) ⟨wr.heap.size, 0, none⟩ 1 1 [.int .i64 (y : Int)] rfl rfl ?c1 ?c2 ?c3 ?c4 ?c5 ?_)
          case c1 =>
            intro j u hj
            match j, hj with
            | 0, hj => simp at hj; subst hj; simp [Addr.add]
          case c2 => intro u hu; simp at hu; subst hu; rfl
          case c3 => unfold maxLen; omega
          case c4 => omega
          case c5 => have := HL.out.size; simp; omega
          intro v' w2 hown' hgrow _
          have HO1 := Lib.hid hown'; have HGR := Lib.hid hgrow
          clear hown' hgrow
          go_wp2
          refine ⟨⟨t + 1, by omega, by simp only [Value.int.injEq, true_and]; omega, ?_, ?_⟩, by simp only [intOf]; omega⟩
          · rw [← Nat.add_assoc, ← HN.out, H1]; exact HO1.out
          · exact (HL.out.alloc HL.out.size _).grown HGR.out (by have := HL.out.size; simp; omega) (fun r hr => (HO.out.lt r hr).1)
        · obtain rfl : t = 6 := by omega
          go_wp2
          exact ⟨⟨k + 1, by omega, by go_num, HO.out, HL.out⟩, by simp [intOf]; omega⟩
    · have hkm : k = s.size := by omega
      have HM := Lib.hid hM
      clear hM
      subst hkm
      by_cases hodd : s.size % 4 = 1
      · have t1 : ((s.size : Int) % 4 == 1) = true := by rw [beq_iff_eq]; omega
        have t2 : ((s.size : Int).tmod 4 == 1) = true := by rw [beq_iff_eq, Int.tmod_eq_emod_of_nonneg (by omega)]; omega
        have HO2 := Lib.hid hodd
        clear hodd
        go_wp2
        go_ret3
        exact ⟨by rw [HR.out, if_pos HO2.out]; rfl, HL.out⟩
      · have t1 : ((s.size : Int) % 4 == 1) = false := by rw [beq_eq_false_iff_ne]; omega
        have t2 : ((s.size : Int).tmod 4 == 1) = false := by rw [beq_eq_false_iff_ne, Int.tmod_eq_emod_of_nonneg (by omega)]; omega
        obtain ⟨w0, rfl⟩ : ∃ w0, w0 = wr := ⟨_, rfl⟩
        have HODD := Lib.hid hodd
        clear hodd
        obtain ⟨p, cap, rfl⟩ := own_form HO.out
        obtain ⟨N, hN⟩ : ∃ N, N = 6 * s.size := ⟨_, rfl⟩
        rw [← hN] at HO ⊢
        have HO0 := HO; have HL0 := HL
        have hNs : N < 8388616 := by omega
        have HN := Lib.hid hN
        clear hN
        go_wp2
        go_loopw [9, 10, 11, 12] (fun v i _ _ w' => ∃ j a : Nat, a = 8 * j ∧ a ≤ N ∧ i = .int .i64 (a : Int) ∧ w'.ownsRow w0.heap.size 5 1 v j (u8l (de s j)) ∧ Below w0.heap.size w0 w') (fun _ i _ _ _ => N - (intOf i).toNat)
        case atStart => exact ⟨0, 0, rfl, by omega, rfl, World.ownsRow_nil _ _ _ _, Below.refl _ _⟩
        case round =>
          obtain ⟨j, a, ha, haN, rfl, hown, hbl⟩ := hrel
          have HQ := Lib.hid hown; have HB := Lib.hid hbl
          clear hown hbl
          have hjb : j < 8388616 := by omega
          by_cases hlt : a + 8 ≤ N
          · have hN0 : 0 < N := by omega
            have g0 : (a : Int) + 8 ≤ (N : Int) := by omega
            obtain ⟨g, cap2, hp, hgb, hgl⟩ := HO0.out.form hN0
            obtain ⟨rfl, rfl⟩ : p = some ⟨g, 0, none⟩ ∧ cap = cap2 := by
              injection hp with h1 _ h3
              exact ⟨h1, h3⟩
            have hbits := own_below HO0.out HB.out
            have hcell : ∀ i, i < N → wr.cell? ⟨g, i, none⟩ = some (.int .i64 ((dbits s i : Nat) : Int)) := fun i hi => by
              rw [hbits.cellAt i (by omega), bl_get _ _ _ hi]
            have HCELL := Lib.hid hcell
            have HA := Lib.hid ha
            clear hbits hcell hp ha
            go_wp2
            go_loopw [11, 12] (fun m i w' => ∃ k h : Nat, k ≤ 8 ∧ i = .int .i64 (k : Int) ∧ m = .int .i64 (h : Int) ∧ h = vb (dbits s) a k ∧ wr = w') (fun _ i _ => 8 - (intOf i).toNat)
            case atStart => exact ⟨0, 0, by omega, rfl, rfl, rfl, rfl⟩
            case round =>
              obtain ⟨k, h, hk, rfl, rfl, hv, rfl⟩ := hrel
              by_cases hk6 : k < 8
              · have c1 := HCELL.out (a + k) (by omega)
                have hvl := vb_lt (dbits s) (dbits_lt s) a k
                have h2k : 2 ^ k ≤ 2 ^ 8 := Nat.pow_le_pow_right (by decide) (by omega)
                have hb2 := dbits_lt s (a + k)
                have hv1 : vb (dbits s) a (k + 1) = 2 * h + dbits s (a + k) := by rw [vb, hv]
                obtain ⟨b, hb⟩ : ∃ b, b = dbits s (a + k) := ⟨_, rfl⟩
                rw [← hb] at c1 hb2 hv1
                have hh64 : h < 512 := by omega
                obtain ⟨z, hz⟩ : ∃ z, z = a + k := ⟨_, rfl⟩
                have q1 : (a : Int) + (k : Int) = (z : Int) := by omega
                rw [← hz] at c1
                have hzN : z < N := by omega
                have HZ := Lib.hid hz; have HBB := Lib.hid hb; have HV1 := Lib.hid hv1
                clear hz hb hv1 hv hvl h2k
                go_wp2
                refine ⟨⟨k + 1, 2 * h + b, by omega, by go_num, by go_num, by rw [HV1.out], by first | trivial | rfl⟩, by simp [intOf]; omega⟩
              · obtain rfl : k = 8 := by omega
                have hvl := vb_lt (dbits s) (dbits_lt s) a 8
                have hh64 : h < 256 := by rw [hv]; exact hvl
                have hs8 : h = vb (dbits s) (8 * j) 8 := by rw [hv, HA.out]
                obtain ⟨b, hb⟩ : ∃ b, b = UInt8.ofNat h := ⟨_, rfl⟩
                have hbn : b.toNat = h := by rw [hb, UInt8.toNat_ofNat']; omega
                have H1 : Hid (u8l (de s (j + 1)) = u8l (de s j) ++ [.int .u8 ((b.toNat : Nat) : Int)]) := by
                  rw [de_snoc, ← u8l_snoc, ← hs8, ← hb]; exact rfl
                have q1 : IntKind.u8.wrap (h : Int) = ((b.toNat : Nat) : Int) := by rw [IntKind.wrap_u8]; omega
                have q2 : (h : Int) % 256 = ((b.toNat : Nat) : Int) := by omega
                have HV := Lib.hid hv; have HS8 := Lib.hid hs8; have HBB := Lib.hid hb; have HBN := Lib.hid hbn
                clear hv hvl hs8 hb hbn
                go_wp2_with (at_builtin; refine wpList_append_own _ rfl _ _ 32 rfl w0.heap.size 5 i0 (.int .u8 0) 1 1 Try.underlying32 HI.out HZ0.out HZ1.out HZ2.out rfl (by decide) _ _ _ rfl (HQ.out.alloc _) ⟨wr.heap.size, 0, none⟩ 1 1 [.int .u8 ((b.toNat : Nat) : Int)] rfl rfl ?c1 ?c2 ?c3 ?c4 ?c5 ?_)
                case c1 =>
                  intro j u hj
                  match j, hj with
                  | 0, hj => simp at hj; subst hj; simp [Addr.add]
                case c2 => intro u hu; simp at hu; subst hu; rfl
                case c3 => unfold maxLen; omega
                case c4 => omega
                case c5 => have := HB.out.size; simp; omega
                intro v' w2 hown' hgrow _
                have HO1 := Lib.hid hown'; have HGR := Lib.hid hgrow
                clear hown' hgrow
                go_wp2
                refine ⟨⟨j + 1, a + 8, by have := HA.out; omega, by omega, by go_num, ?_, ?_⟩, by simp [intOf]; omega⟩
                · rw [H1]; exact HO1.out
                · exact (HB.out.alloc HB.out.size _).grown HGR.out (by have := HB.out.size; simp; omega) (fun r hr => (HQ.out.lt r hr).1)
          · have hj6 : j = 6 * s.size / 8 := by have := HN.out; omega
            have g0 : (N : Int) < (a : Int) + 8 := by omega
            have hleft : left s = vb (dbits s) a (N - a) := by
              unfold left; rw [← hj6, ha, HN.out]
            have HJ6 := Lib.hid hj6; have HLEFT := Lib.hid hleft; have HA := Lib.hid ha
            clear hj6 hleft ha
            obtain ⟨w3, rfl⟩ : ∃ w3, w3 = wr := ⟨_, rfl⟩
            go_wp2
            go_loopw [10] (fun i w' => ∃ z : Nat, a ≤ z ∧ z ≤ N ∧ i = .int .i64 (z : Int) ∧ (∀ i, a ≤ i → i < z → dbits s i = 0) ∧ w3 = w') (fun i _ => N - (intOf i).toNat)
            case atStart => exact ⟨a, by omega, by omega, rfl, fun i h1 h2 => by omega, rfl⟩
            case round =>
              obtain ⟨z, haz, hz, rfl, hzero, rfl⟩ := hrel
              have HZERO := Lib.hid hzero
              clear hzero
              by_cases hzN : z < N
              · have hN0 : 0 < N := by omega
                have g1 : (z : Int) < (N : Int) := by omega
                obtain ⟨g, cap2, hp, hgb, hgl⟩ := HO0.out.form hN0
                obtain ⟨rfl, rfl⟩ : p = some ⟨g, 0, none⟩ ∧ cap = cap2 := by
                  injection hp with h1 _ h3
                  exact ⟨h1, h3⟩
                have c1 : w3.cell? ⟨g, z, none⟩ = some (.int .i64 ((dbits s z : Nat) : Int)) := by
                  rw [(own_below HO0.out HB.out).cellAt z (by omega), bl_get _ _ _ hzN]
                clear hp
                by_cases hd : dbits s z = 0
                · have t5 : (((dbits s z : Nat) : Int) != 0) = false := by rw [hd]; rfl
                  obtain ⟨b, hb⟩ : ∃ b, b = dbits s z := ⟨_, rfl⟩
                  rw [← hb] at c1 t5
                  have HD := Lib.hid hd; have HBB := Lib.hid hb
                  clear hd hb
                  go_wp2
                  refine ⟨⟨z + 1, by omega, by omega, by go_num, fun i h1 h2 => ?_, by first | trivial | rfl⟩, by simp [intOf]; omega⟩
                  by_cases hiz : i = z
                  · rw [hiz]; exact HD.out
                  · exact HZERO.out i h1 (by omega)
                · have t5 : (((dbits s z : Nat) : Int) != 0) = true := by simp only [bne_iff_ne]; omega
                  have hl : ¬ left s = 0 := fun h => by
                    rw [HLEFT.out] at h
                    have := (vb_zero_iff (dbits s) a (N - a)).1 h (z - a) (by omega)
                    rw [show a + (z - a) = z by omega] at this
                    exact hd this
                  have hR2 : R = #[.string ByteArray.empty, .int .i64 ((s.size : Nat) - 1), .int .i64 9] := by rw [HR.out, if_neg HODD.out, if_neg hl]
                  have h1s : 1 ≤ s.size := by have := HN.out; omega
                  obtain ⟨b, hb⟩ : ∃ b, b = dbits s z := ⟨_, rfl⟩
                  rw [← hb] at c1 t5
                  have HR2 := Lib.hid hR2; have HBB := Lib.hid hb
                  clear hR2 hl hd hb
                  go_wp2
                  go_ret3
                  exact ⟨by rw [HR2.out]; rfl, HL0.out.trans (HB.out.mono HL0.out.size)⟩
              · have hzN2 : z = N := by omega
                have g1 : (N : Int) ≤ (z : Int) := by omega
                have hl : left s = 0 := by
                  rw [HLEFT.out]
                  exact vb_zero _ _ _ (fun i hi => HZERO.out (a + i) (by omega) (by omega))
                have hR2 : R = #[.string (decB s), .int .i64 0, .int .i64 0] := by rw [HR.out, if_neg HODD.out, if_pos hl]
                have hconv := run_conv_own (P := Try.prog) 32 9 Try.underlying32 Try.underlying5 Try.underlying9 HQ.out
                have hcs : ∀ x : ByteArray, x = ⟨(de s j).toArray⟩ → x = decB s := fun x e => by rw [e, HJ6.out]; rfl
                rw [hcs _ rfl] at hconv
                have HR2 := Lib.hid hR2; have HZN := Lib.hid hzN2
                clear hR2 hl hcs hzN2
                go_wp2
                go_ret3
                exact ⟨by rw [HR2.out]; rfl, HL0.out.trans (HB.out.mono HL0.out.size)⟩
end Go.Proofs.Ytgpjpdeiogopfaa
