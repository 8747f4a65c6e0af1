/- base.Decode: the walk. -/
import Derived.Test.YtgpjpdeiogopfaaW3
import Derived.OwnWalk
namespace Go.Proofs.Ytgpjpdeiogopfaa
open Go.RowKit
attribute [local go_sem] setCell_drewN alloc_drewN b64_byte
set_option maxRecDepth 100000 in
set_option maxHeartbeats 1000000 in
theorem dec_bad (W : World) (s : ByteArray) (M : Nat) (hm : firstBad s M) (hs : s.size ≤ 140737488351232) :
    Calls Try.prog 10 #[.string s] W fun e w' => e = .returned (.tuple #[.string ByteArray.empty, .int .i64 (M : Nat), .int .i64 9]) ∧ Below W.heap.size W w' := by
  obtain ⟨hM, hg, hm3⟩ := hm
  have HG := Lib.hid hg; have HM3 := Lib.hid hm3
  clear hg hm3
  obtain ⟨i0, hi, hz0, hz1, hz2⟩ := info_parts info5
  have HI := Lib.hid hi; have HZ0 := Lib.hid hz0; have HZ1 := Lib.hid hz1; have HZ2 := Lib.hid hz2
  clear hi hz0 hz1 hz2
  go_enter Try.func10, Try.ntmps10
  go_wp2
  go_loopw [5, 6, 7, 8, 9, 12] (fun v hd nn _ _ i wr => ∃ k j n h : Nat, k ≤ M ∧ i = .int .i64 (k : Int) ∧ nn = .int .i64 (n : Int) ∧ hd = .int .u64 (h : Int) ∧ n < 8 ∧ 8 * j + n = 6 * k ∧ h = vb (dbits s) (8 * j) n ∧ wr.ownsRow W.heap.size 5 1 v j (u8l (de s j)) ∧ Below W.heap.size W wr) (fun _ _ _ _ _ i _ => s.size - (intOf i).toNat)
  case atStart => exact ⟨0, 0, 0, 0, by omega, rfl, rfl, rfl, by decide, rfl, rfl, World.ownsRow_nil _ _ _ _, Below.refl _ _⟩
  case round =>
    obtain ⟨k, j, n, h, hk, rfl, rfl, rfl, hn8, hjn, hh, hown, hbl⟩ := hrel
    have HO := Lib.hid hown; have HL := Lib.hid hbl
    clear hown hbl
    by_cases hlt : k < M
    · have hks : k < s.size := by omega
      obtain ⟨c, hc⟩ : ∃ c, c = byteAt s k := ⟨_, rfl⟩
      have hsk : s[k] = c := by rw [hc]; exact byteAt_get s k hks
      have h64 : num c < 64 := by rw [hc]; exact HG.out k (by omega)
      have hin := din s k j n (by rw [← hc]; exact h64) hjn
      rw [← hc, ← hh] at hin
      have HC := Lib.hid hc; have HIN := Lib.hid hin; have HJN := Lib.hid hjn
      have hhl : h < 128 := by
        have h1 := vb_lt (dbits s) (dbits_lt s) (8 * j) n
        have h2 : 2 ^ n ≤ 2 ^ 7 := Nat.pow_le_pow_right (by decide) (by omega)
        omega
      have hj8 : j < 140737488351232 := by omega
      clear hc hin hjn hh
      go_wp2_with fail
      refine (index_t c _).mono ?_
      rintro e w1 ⟨rfl, rfl⟩
      rw [if_pos h64]
      obtain ⟨m, hm⟩ : ∃ m, m = num c := ⟨_, rfl⟩
      rw [← hm] at h64 ⊢
      obtain ⟨h', hh'⟩ : ∃ h', h' = h * 64 + m := ⟨_, rfl⟩
      obtain ⟨x, hx⟩ : ∃ x, x = h * 64 := ⟨_, rfl⟩
      have f1 : IntKind.u64.wrap ((h : Int) * 64) = (x : Int) := by rw [IntKind.wrap_u64, Int.emod_eq_of_lt] <;> omega
      have f2 : bits .or .u64 (x : Int) (m : Int) = (h' : Int) := by
        rw [u64_or_nat _ _ (by omega) (by omega), hx, or_low6 _ _ h64, hh']
      have f3 : IntKind.u64.wrap (m : Int) = (m : Int) := by rw [IntKind.wrap_u64, Int.emod_eq_of_lt] <;> omega
      have hv : h' = vb (dbits s) (8 * j) (n + 6) := by rw [hh', hm, HIN.out]
      have f4 : h' < 18446744073709551616 := by omega
      have f5 : (0 : Int) ≤ (m : Int) := by omega
      have HM := Lib.hid hm; have HH' := Lib.hid hh'; have HX := Lib.hid hx
      clear hm hh' hx
      by_cases hge : 2 ≤ n
      · obtain ⟨r, hr⟩ : ∃ r, n = 2 + r := ⟨n - 2, by omega⟩
        have e8 : n + 6 = 8 + r := by omega
        rw [e8] at hv
        have v1 := vb_high (dbits s) (dbits_lt s) (8 * j) 8 r
        have v2 := vb_low (dbits s) (dbits_lt s) (8 * j) 8 r
        have v3 := vb_lt (dbits s) (dbits_lt s) (8 * j) 8
        rw [← hv] at v1 v2
        obtain ⟨q, hq⟩ : ∃ q, q = h' / 2 ^ r := ⟨_, rfl⟩
        rw [← hq] at v1
        obtain ⟨y, hy⟩ : ∃ y, y = h' % 2 ^ r := ⟨_, rfl⟩
        rw [← hy] at v2
        obtain ⟨p, hp⟩ : ∃ p, p = 2 ^ r := ⟨_, rfl⟩
        have hp0 : 0 < 2 ^ r := Nat.pow_pos (by decide)
        have hp8 : 2 ^ r ≤ 2 ^ 8 := Nat.pow_le_pow_right (by decide) (by omega)
        obtain ⟨p1, hp1⟩ : ∃ p1, p1 = p - 1 := ⟨_, rfl⟩
        obtain ⟨b, hb⟩ : ∃ b, b = UInt8.ofNat (vb (dbits s) (8 * j) 8) := ⟨_, rfl⟩
        have hbn : b.toNat = q := by rw [hb, UInt8.toNat_ofNat', v1, Nat.mod_eq_of_lt v3]
        have g0 : (n : Int) + 6 - 8 = (r : Int) := by omega
        have g1 : (h' : Int) / 2 ^ r = ((b.toNat : Nat) : Int) := by rw [hbn, hq]; simp
        have g2 : IntKind.u8.wrap ((b.toNat : Nat) : Int) = ((b.toNat : Nat) : Int) := by
          have := b.toNat_lt
          rw [IntKind.wrap_u8]; omega
        have g3 : ((2 : Int) ^ r) = (p : Int) := by rw [hp]; simp
        have g1' : (h' : Int) / (p : Int) = ((b.toNat : Nat) : Int) := by rw [← g3, g1]
        have g2' : ((b.toNat : Nat) : Int) % 256 = ((b.toNat : Nat) : Int) := by have := b.toNat_lt; omega
        have g4 : IntKind.u64.wrap (p : Int) = (p : Int) := by rw [IntKind.wrap_u64, Int.emod_eq_of_lt] <;> omega
        have g5 : IntKind.u64.wrap ((p : Int) - 1) = (p1 : Int) := by rw [IntKind.wrap_u64, Int.emod_eq_of_lt] <;> omega
        have g5'' : IntKind.u64.wrap (p1 : Int) = (p1 : Int) := by rw [IntKind.wrap_u64, Int.emod_eq_of_lt] <;> omega
        have g5' : ((p : Int) - 1) = (p1 : Int) := by omega
        have g6 : bits .and .u64 (h' : Int) (p1 : Int) = (y : Int) := by rw [and_mask h' r p1 (by omega) (by omega) f4, hy]
        have g7 : r < 6 := by omega
        have g8 : (8 : Int) ≤ (n : Int) + 6 := by omega
        have H1 : Hid (u8l (de s (j + 1)) = u8l (de s j) ++ [.int .u8 ((b.toNat : Nat) : Int)]) := by
          rw [de_snoc, ← u8l_snoc, ← hb]; exact rfl
        have v4 : y = vb (dbits s) (8 * (j + 1)) r := by rw [v2]; rfl
        have HV4 := Lib.hid v4; have HB := Lib.hid hb; have HBN := Lib.hid hbn; have HQ := Lib.hid hq; have HY := Lib.hid hy; have HP := Lib.hid hp; have HP1 := Lib.hid hp1; have HR := Lib.hid hr
        clear hv v1 v2 v3 v4 hb hbn hq hy hp hp1 hp0 hp8 hr e8
        go_wp2_with (at_builtin; refine wpList_append_own _ rfl _ _ 32 rfl W.heap.size 5 i0 (.int .u8 0) 1 1 Try.underlying32 HI.out HZ0.out HZ1.out HZ2.out rfl (by decide) _ _ _ rfl (HO.out.alloc _) ⟨w1.heap.size, 0, none⟩ 1 1 [.int .u8 ((b.toNat : Nat) : Int)] rfl rfl ?c1 ?c2 ?c3 ?c4 ?c5 ?_)
        case c1 =>
          intro j u hj
          match j, hj with
          | 0, hj => simp at hj; subst hj; simp [Addr.add]
        case c2 => intro u hu; simp at hu; subst hu; rfl
        case c3 => unfold maxLen; omega
        case c4 => omega
        case c5 => have := HL.out.size; simp; omega
        intro v' w2 hown' hgrow _
        have HO1 := Lib.hid hown'; have HGR := Lib.hid hgrow
        clear hown' hgrow
        go_wp2
        refine ⟨⟨k + 1, j + 1, r, y, by omega, by go_num, rfl, rfl, by omega, by have := HJN.out; have := HR.out; omega, HV4.out, ?_, ?_⟩, by simp [intOf]; omega⟩
        · rw [H1]; exact HO1.out
        · exact (HL.out.alloc HL.out.size _).grown HGR.out (by have := HL.out.size; simp; omega) (fun r hr => (HO.out.lt r hr).1)
      · have g8 : (n : Int) + 6 < 8 := by omega
        have HV := Lib.hid hv
        clear hv
        go_wp2
        exact ⟨⟨k + 1, j, n + 6, h', by omega, by go_num, by go_num, rfl, by omega, by have := HJN.out; omega, HV.out, HO.out, HL.out⟩, by simp [intOf]; omega⟩
    · obtain rfl : k = M := by omega
      obtain ⟨c, hc⟩ : ∃ c, c = byteAt s k := ⟨_, rfl⟩
      have hsk : s[k] = c := by rw [hc]; exact byteAt_get s k (by omega)
      have h64 : ¬ num c < 64 := by rw [hc]; exact HM3.out
      have HC := Lib.hid hc; have HJN := Lib.hid hjn
      clear hc hjn hh
      go_wp2_with fail
      refine (index_t c _).mono ?_
      rintro e w1 ⟨rfl, rfl⟩
      rw [if_neg h64]
      clear h64 hsk HC
      go_wp2
      go_ret3
      exact ⟨rfl, HL.out⟩
set_option maxRecDepth 100000 in
set_option maxHeartbeats 1000000 in
theorem dec_good (W : World) (s : ByteArray) (R : Array Value) (hR : R = if s.size % 4 = 1 then #[.string ByteArray.empty, .int .i64 (s.size : Nat), .int .i64 9] else if left s = 0 then #[.string (decB s), .int .i64 0, .int .i64 0] else #[.string ByteArray.empty, .int .i64 ((s.size : Nat) - 1), .int .i64 9]) (hg : allGood s) (hs : s.size ≤ 140737488351232) :
    Calls Try.prog 10 #[.string s] W fun e w' => e = .returned (.tuple R) ∧ Below W.heap.size W w' := by
  have HG := Lib.hid hg; have HR := Lib.hid hR
  clear hg hR
  obtain ⟨M, hM⟩ : ∃ M, M = s.size := ⟨_, rfl⟩
  obtain ⟨i0, hi, hz0, hz1, hz2⟩ := info_parts info5
  have HI := Lib.hid hi; have HZ0 := Lib.hid hz0; have HZ1 := Lib.hid hz1; have HZ2 := Lib.hid hz2
  clear hi hz0 hz1 hz2
  go_enter Try.func10, Try.ntmps10
  go_wp2
  go_loopw [5, 6, 7, 8, 9, 12] (fun v hd nn _ _ i wr => ∃ k j n h : Nat, k ≤ M ∧ i = .int .i64 (k : Int) ∧ nn = .int .i64 (n : Int) ∧ hd = .int .u64 (h : Int) ∧ n < 8 ∧ 8 * j + n = 6 * k ∧ h = vb (dbits s) (8 * j) n ∧ wr.ownsRow W.heap.size 5 1 v j (u8l (de s j)) ∧ Below W.heap.size W wr) (fun _ _ _ _ _ i _ => s.size - (intOf i).toNat)
  case atStart => exact ⟨0, 0, 0, 0, by omega, rfl, rfl, rfl, by decide, rfl, rfl, World.ownsRow_nil _ _ _ _, Below.refl _ _⟩
  case round =>
    obtain ⟨k, j, n, h, hk, rfl, rfl, rfl, hn8, hjn, hh, hown, hbl⟩ := hrel
    have HO := Lib.hid hown; have HL := Lib.hid hbl
    clear hown hbl
    by_cases hlt : k < M
    · have hks : k < s.size := by omega
      obtain ⟨c, hc⟩ : ∃ c, c = byteAt s k := ⟨_, rfl⟩
      have hsk : s[k] = c := by rw [hc]; exact byteAt_get s k hks
      have h64 : num c < 64 := by rw [hc]; exact HG.out k (by omega)
      have hin := din s k j n (by rw [← hc]; exact h64) hjn
      rw [← hc, ← hh] at hin
      have HC := Lib.hid hc; have HIN := Lib.hid hin; have HJN := Lib.hid hjn
      have hhl : h < 128 := by
        have h1 := vb_lt (dbits s) (dbits_lt s) (8 * j) n
        have h2 : 2 ^ n ≤ 2 ^ 7 := Nat.pow_le_pow_right (by decide) (by omega)
        omega
      have hj8 : j < 140737488351232 := by omega
      clear hc hin hjn hh
      go_wp2_with fail
      refine (index_t c _).mono ?_
      rintro e w1 ⟨rfl, rfl⟩
      rw [if_pos h64]
      obtain ⟨m, hm⟩ : ∃ m, m = num c := ⟨_, rfl⟩
      rw [← hm] at h64 ⊢
      obtain ⟨h', hh'⟩ : ∃ h', h' = h * 64 + m := ⟨_, rfl⟩
      obtain ⟨x, hx⟩ : ∃ x, x = h * 64 := ⟨_, rfl⟩
      have f1 : IntKind.u64.wrap ((h : Int) * 64) = (x : Int) := by rw [IntKind.wrap_u64, Int.emod_eq_of_lt] <;> omega
      have f2 : bits .or .u64 (x : Int) (m : Int) = (h' : Int) := by
        rw [u64_or_nat _ _ (by omega) (by omega), hx, or_low6 _ _ h64, hh']
      have f3 : IntKind.u64.wrap (m : Int) = (m : Int) := by rw [IntKind.wrap_u64, Int.emod_eq_of_lt] <;> omega
      have hv : h' = vb (dbits s) (8 * j) (n + 6) := by rw [hh', hm, HIN.out]
      have f4 : h' < 18446744073709551616 := by omega
      have f5 : (0 : Int) ≤ (m : Int) := by omega
      have HM := Lib.hid hm; have HH' := Lib.hid hh'; have HX := Lib.hid hx
      clear hm hh' hx
      by_cases hge : 2 ≤ n
      · obtain ⟨r, hr⟩ : ∃ r, n = 2 + r := ⟨n - 2, by omega⟩
        have e8 : n + 6 = 8 + r := by omega
        rw [e8] at hv
        have v1 := vb_high (dbits s) (dbits_lt s) (8 * j) 8 r
        have v2 := vb_low (dbits s) (dbits_lt s) (8 * j) 8 r
        have v3 := vb_lt (dbits s) (dbits_lt s) (8 * j) 8
        rw [← hv] at v1 v2
        obtain ⟨q, hq⟩ : ∃ q, q = h' / 2 ^ r := ⟨_, rfl⟩
        rw [← hq] at v1
        obtain ⟨y, hy⟩ : ∃ y, y = h' % 2 ^ r := ⟨_, rfl⟩
        rw [← hy] at v2
        obtain ⟨p, hp⟩ : ∃ p, p = 2 ^ r := ⟨_, rfl⟩
        have hp0 : 0 < 2 ^ r := Nat.pow_pos (by decide)
        have hp8 : 2 ^ r ≤ 2 ^ 8 := Nat.pow_le_pow_right (by decide) (by omega)
        obtain ⟨p1, hp1⟩ : ∃ p1, p1 = p - 1 := ⟨_, rfl⟩
        obtain ⟨b, hb⟩ : ∃ b, b = UInt8.ofNat (vb (dbits s) (8 * j) 8) := ⟨_, rfl⟩
        have hbn : b.toNat = q := by rw [hb, UInt8.toNat_ofNat', v1, Nat.mod_eq_of_lt v3]
        have g0 : (n : Int) + 6 - 8 = (r : Int) := by omega
        have g1 : (h' : Int) / 2 ^ r = ((b.toNat : Nat) : Int) := by rw [hbn, hq]; simp
        have g2 : IntKind.u8.wrap ((b.toNat : Nat) : Int) = ((b.toNat : Nat) : Int) := by
          have := b.toNat_lt
          rw [IntKind.wrap_u8]; omega
        have g3 : ((2 : Int) ^ r) = (p : Int) := by rw [hp]; simp
        have g1' : (h' : Int) / (p : Int) = ((b.toNat : Nat) : Int) := by rw [← g3, g1]
        have g2' : ((b.toNat : Nat) : Int) % 256 = ((b.toNat : Nat) : Int) := by have := b.toNat_lt; omega
        have g4 : IntKind.u64.wrap (p : Int) = (p : Int) := by rw [IntKind.wrap_u64, Int.emod_eq_of_lt] <;> omega
        have g5 : IntKind.u64.wrap ((p : Int) - 1) = (p1 : Int) := by rw [IntKind.wrap_u64, Int.emod_eq_of_lt] <;> omega
        have g5'' : IntKind.u64.wrap (p1 : Int) = (p1 : Int) := by rw [IntKind.wrap_u64, Int.emod_eq_of_lt] <;> omega
        have g5' : ((p : Int) - 1) = (p1 : Int) := by omega
        have g6 : bits .and .u64 (h' : Int) (p1 : Int) = (y : Int) := by rw [and_mask h' r p1 (by omega) (by omega) f4, hy]
        have g7 : r < 6 := by omega
        have g8 : (8 : Int) ≤ (n : Int) + 6 := by omega
        have H1 : Hid (u8l (de s (j + 1)) = u8l (de s j) ++ [.int .u8 ((b.toNat : Nat) : Int)]) := by
          rw [de_snoc, ← u8l_snoc, ← hb]; exact rfl
        have v4 : y = vb (dbits s) (8 * (j + 1)) r := by rw [v2]; rfl
        have HV4 := Lib.hid v4; have HB := Lib.hid hb; have HBN := Lib.hid hbn; have HQ := Lib.hid hq; have HY := Lib.hid hy; have HP := Lib.hid hp; have HP1 := Lib.hid hp1; have HR := Lib.hid hr
        clear hv v1 v2 v3 v4 hb hbn hq hy hp hp1 hp0 hp8 hr e8
        go_wp2_with (at_builtin; refine wpList_append_own _ rfl _ _ 32 rfl W.heap.size 5 i0 (.int .u8 0) 1 1 Try.underlying32 HI.out HZ0.out HZ1.out HZ2.out rfl (by decide) _ _ _ rfl (HO.out.alloc _) ⟨w1.heap.size, 0, none⟩ 1 1 [.int .u8 ((b.toNat : Nat) : Int)] rfl rfl ?c1 ?c2 ?c3 ?c4 ?c5 ?_)
        case c1 =>
          intro j u hj
          match j, hj with
          | 0, hj => simp at hj; subst hj; simp [Addr.add]
        case c2 => intro u hu; simp at hu; subst hu; rfl
        case c3 => unfold maxLen; omega
        case c4 => omega
        case c5 => have := HL.out.size; simp; omega
        intro v' w2 hown' hgrow _
        have HO1 := Lib.hid hown'; have HGR := Lib.hid hgrow
        clear hown' hgrow
        go_wp2
        refine ⟨⟨k + 1, j + 1, r, y, by omega, by go_num, rfl, rfl, by omega, by have := HJN.out; have := HR.out; omega, HV4.out, ?_, ?_⟩, by simp [intOf]; omega⟩
        · rw [H1]; exact HO1.out
        · exact (HL.out.alloc HL.out.size _).grown HGR.out (by have := HL.out.size; simp; omega) (fun r hr => (HO.out.lt r hr).1)
      · have g8 : (n : Int) + 6 < 8 := by omega
        have HV := Lib.hid hv
        clear hv
        go_wp2
        exact ⟨⟨k + 1, j, n + 6, h', by omega, by go_num, by go_num, rfl, by omega, by have := HJN.out; omega, HV.out, HO.out, HL.out⟩, by simp [intOf]; omega⟩
    · have hkm : k = s.size := by omega
      have HM := Lib.hid hM
      clear hM
      subst hkm
      by_cases hodd : s.size % 4 = 1
      · have t1 : ((s.size : Int) % 4 == 1) = true := by rw [beq_iff_eq]; omega
        have t2 : ((s.size : Int).tmod 4 == 1) = true := by rw [beq_iff_eq, Int.tmod_eq_emod_of_nonneg (by omega)]; omega
        have HO2 := Lib.hid hodd; have HH := Lib.hid hh; have HJN := Lib.hid hjn
        clear hodd hh hjn
        go_wp2
        go_ret3
        exact ⟨by rw [HR.out, if_pos HO2.out]; rfl, HL.out⟩
      · have t1 : ((s.size : Int) % 4 == 1) = false := by rw [beq_eq_false_iff_ne]; omega
        have t2 : ((s.size : Int).tmod 4 == 1) = false := by rw [beq_eq_false_iff_ne, Int.tmod_eq_emod_of_nonneg (by omega)]; omega
        have hj : j = 6 * s.size / 8 := by omega
        have hleft : h = left s := by
          unfold left
          rw [hh, ← hj]
          congr 1; omega
        by_cases hl : left s = 0
        · have t3 : h = 0 := by omega
          have ho := HO.out
          have hconv := run_conv_own (P := Try.prog) 32 9 Try.underlying32 Try.underlying5 Try.underlying9 ho
          have hcs : ∀ x : ByteArray, x = ⟨(de s j).toArray⟩ → x = decB s := fun x e => by rw [e, hj]; rfl
          rw [hcs _ rfl] at hconv
          have hR2 : R = #[.string (decB s), .int .i64 0, .int .i64 0] := by rw [HR.out, if_neg hodd, if_pos hl]
          have HR2 := Lib.hid hR2
          clear hcs ho hR2 hl hleft hj hh hjn hodd
          subst t3
          go_wp2
          go_ret3
          exact ⟨by rw [HR2.out]; rfl, HL.out⟩
        · have t3 : ((h : Int) != 0) = true := by simp only [bne_iff_ne]; omega
          have t4 : 1 ≤ s.size := by
            rcases Nat.eq_zero_or_pos s.size with h0 | h0
            · exfalso; apply hl; unfold left; rw [h0]; rfl
            · exact h0
          have hR2 : R = #[.string ByteArray.empty, .int .i64 ((s.size : Nat) - 1), .int .i64 9] := by rw [HR.out, if_neg hodd, if_neg hl]
          have HR2 := Lib.hid hR2
          clear hR2 hl hleft hj hh hjn hodd
          go_wp2
          go_ret3
          exact ⟨by rw [HR2.out]; rfl, HL.out⟩
end Go.Proofs.Ytgpjpdeiogopfaa
