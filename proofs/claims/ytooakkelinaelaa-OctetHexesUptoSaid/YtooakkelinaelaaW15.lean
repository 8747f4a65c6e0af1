/- octet.Unhex. -/
import Derived.Test.YtooakkelinaelaaW14
import Derived.Test.YtooakkelinaelaaW3
import Derived.Outline
namespace Go.Proofs.Ytooakkelinaelaa
open Go.RowKit
attribute [local go_sem] setCell_drewN alloc_drewN
/-- the half bytes -/
def hf (s : ByteArray) (i : Nat) : UInt8 := UInt8.ofNat (hv (byteAt s i))
/-- the bytes that signs tell -/
def uf (s : ByteArray) (i : Nat) : UInt8 := UInt8.ofNat (16 * hv (byteAt s (2 * i)) + hv (byteAt s (2 * i + 1)))
def firstBad (s : ByteArray) (k : Nat) : Prop := k < s.size ∧ (∀ i, i < k → hv (byteAt s i) < 16) ∧ ¬ hv (byteAt s k) < 16
set_option maxRecDepth 100000 in
set_option maxHeartbeats 1000000 in
theorem unhex_bad (W : World) (s : ByteArray) (m : Nat) (hm : firstBad s m) (hs : s.size ≤ 140737488351232) :
    Calls Try.prog 21 #[.string s] W fun e w' => e = .returned (.tuple #[.string ByteArray.empty, .int .i64 (m : Nat), .int .i64 9]) ∧ Below W.heap.size W w' := by
  obtain ⟨hm1, hm2, hm3⟩ := hm
  have hmk := make_bytes s.size (by omega)
  have hl : ∀ k, (fill (hf s) (zeros s.size) k).length = s.size := fun k => by rw [fill_length, zeros_length]
  have HL := Lib.hid hl; have HM2 := Lib.hid hm2; have HM3 := Lib.hid hm3
  clear hl hm2 hm3
  go_enter Try.func21, Try.ntmps21
  go_wp2
  clear hmk
  go_loopw [6, 7, 15] (fun _ _ i wr => ∃ k : Nat, k ≤ m ∧ i = .int .i64 k ∧ ∃ q, wr = (W.alloc (.cells (u8s (fill (hf s) (zeros s.size) k)) 5)).drewN q) (fun _ _ i _ => s.size - (intOf i).toNat)
  case atStart => exact ⟨0, by omega, rfl, 0, rfl⟩
  case round =>
    obtain ⟨k, hk, rfl, q, rfl⟩ := hrel
    have hks : k < s.size := by omega
    obtain ⟨c, hc⟩ : ∃ c, c = byteAt s k := ⟨_, rfl⟩
    have hsk : s[k] = c := by rw [hc]; exact byteAt_get s k hks
    have HC := Lib.hid hc
    clear hc
    go_wp2_with fail
    refine (index_t c _).mono ?_
    rintro e w1 ⟨rfl, rfl⟩
    by_cases hlt : k < m
    · have h16 : hv c < 16 := by rw [HC.out]; exact HM2.out k hlt
      rw [if_pos h16]
      have hcf : hf s k = UInt8.ofNat (hv c) := by rw [hf, ← HC.out]
      have hcn : (((hf s k).toNat : Nat) : Int) = ((hv c : Nat) : Int) := by rw [hcf, UInt8.toNat_ofNat']; omega
      obtain ⟨h, hh⟩ : ∃ h, h = hv c := ⟨_, rfl⟩
      rw [← hh] at hcn h16 ⊢
      have hw8 : IntKind.u8.wrap (h : Int) = (((hf s k).toNat : Nat) : Int) := by rw [IntKind.wrap_u8, hcn]; omega
      have c1 := u8s_get (fill (hf s) (zeros s.size) k) k (by rw [HL.out]; exact hks)
      have HH := Lib.hid hh
      clear hh hcn hcf
      go_wp2
      refine ⟨⟨k + 1, by omega, by go_num, q, ?_⟩, by simp [intOf]; omega⟩
      rw [u8s_set]; rfl
    · have hkm : k = m := by omega
      have h16 : ¬ hv c < 16 := by rw [HC.out, hkm]; exact HM3.out
      rw [if_neg h16]
      clear h16 hsk
      subst hkm
      go_wp2
      go_ret3
      exact ⟨rfl, below_drewN ((Below.refl _ _).alloc (Nat.le_refl _) _) _⟩
set_option maxRecDepth 100000 in
set_option maxHeartbeats 1000000 in
theorem unhex_good (W : World) (s : ByteArray) (R : Array Value) (hR : R = if s.size % 2 = 1 then #[.string ByteArray.empty, .int .i64 (s.size : Nat), .int .i64 9] else #[.string ⟨(fill (uf s) (zeros (s.size / 2)) (s.size / 2)).toArray⟩, .int .i64 0, .int .i64 0]) (hg : ∀ i, i < s.size → hv (byteAt s i) < 16) (hs : s.size ≤ 140737488351232) :
    Calls Try.prog 21 #[.string s] W fun e w' => e = .returned (.tuple R) ∧ Below W.heap.size W w' := by
  have hmk := make_bytes s.size (by omega)
  have hl : ∀ k, (fill (hf s) (zeros s.size) k).length = s.size := fun k => by rw [fill_length, zeros_length]
  have HL := Lib.hid hl; have HG := Lib.hid hg; have HR := Lib.hid hR
  clear hl hg hR
  go_enter Try.func21, Try.ntmps21
  go_wp2
  clear hmk
  go_loopw [6, 7, 15, 16, 17, 18, 19, 20, 21, 22, 23, 25, 26, 27, 28, 29, 30] (fun _ _ i _ _ _ _ _ _ _ _ _ _ _ _ _ _ wr => ∃ k : Nat, k ≤ s.size ∧ i = .int .i64 k ∧ ∃ q, wr = (W.alloc (.cells (u8s (fill (hf s) (zeros s.size) k)) 5)).drewN q) (fun _ _ i _ _ _ _ _ _ _ _ _ _ _ _ _ _ _ => s.size - (intOf i).toNat)
  case atStart => exact ⟨0, by omega, rfl, 0, rfl⟩
  case round =>
    obtain ⟨k, hk, rfl, q, rfl⟩ := hrel
    by_cases hlt : k < s.size
    · obtain ⟨c, hc⟩ : ∃ c, c = byteAt s k := ⟨_, rfl⟩
      have hsk : s[k] = c := by rw [hc]; exact byteAt_get s k hlt
      have h16 : hv c < 16 := by rw [hc]; exact HG.out k hlt
      have HC := Lib.hid hc
      clear hc
      go_wp2_with fail
      refine (index_t c _).mono ?_
      rintro e w1 ⟨rfl, rfl⟩
      rw [if_pos h16]
      have hcf : hf s k = UInt8.ofNat (hv c) := by rw [hf, ← HC.out]
      have hcn : (((hf s k).toNat : Nat) : Int) = ((hv c : Nat) : Int) := by rw [hcf, UInt8.toNat_ofNat']; omega
      obtain ⟨h, hh⟩ : ∃ h, h = hv c := ⟨_, rfl⟩
      rw [← hh] at hcn h16 ⊢
      have hw8 : IntKind.u8.wrap (h : Int) = (((hf s k).toNat : Nat) : Int) := by rw [IntKind.wrap_u8, hcn]; omega
      have c1 := u8s_get (fill (hf s) (zeros s.size) k) k (by rw [HL.out]; exact hlt)
      have HH := Lib.hid hh
      clear hh hcn hcf
      go_wp2
      refine ⟨⟨k + 1, by omega, by go_num, q, ?_⟩, by simp [intOf]; omega⟩
      rw [u8s_set]; rfl
    · obtain rfl : k = s.size := by omega
      obtain ⟨L, hL⟩ : ∃ L, L = fill (hf s) (zeros s.size) s.size := ⟨_, rfl⟩
      rw [← hL]
      by_cases hodd : s.size % 2 = 1
      · have t1 : ((s.size : Int) % 2 == 1) = true := by rw [beq_iff_eq]; omega
        have t2 : ((s.size : Int).tmod 2 == 1) = true := by rw [beq_iff_eq, Int.tmod_eq_emod_of_nonneg (by omega)]; omega
        have HO := Lib.hid hodd
        clear hodd hL
        go_wp2
        go_ret3
        exact ⟨by rw [HR.out, if_pos HO.out]; rfl, below_drewN ((Below.refl _ _).alloc (Nat.le_refl _) _) _⟩
      · obtain ⟨d, hd⟩ : ∃ d, s.size = 2 * d := ⟨s.size / 2, by omega⟩
        have t1 : ((s.size : Int) % 2 == 1) = false := by rw [beq_eq_false_iff_ne]; omega
        have t2 : ((s.size : Int).tmod 2 == 1) = false := by rw [beq_eq_false_iff_ne, Int.tmod_eq_emod_of_nonneg (by omega)]; omega
        have t3 : (s.size : Int) / 2 = (d : Int) := by omega
        have t4 : (s.size : Int).tdiv 2 = (d : Int) := by rw [Int.tdiv_eq_ediv_of_nonneg (by omega)]; omega
        have hmk := make_bytes d (by omega)
        have hl2 : ∀ k, (fill (uf s) (zeros d) k).length = d := fun k => by rw [fill_length, zeros_length]
        have hLat : ∀ i, i < s.size → (u8s L)[i]? = some (.int .u8 (((hf s i).toNat : Nat) : Int)) := fun i hi => by
          have h1 : L.length = s.size := by rw [hL]; exact HL.out _
          rw [u8s_get L i (by omega), hL, List.getD_eq_getElem?_getD, fill_get _ _ _ _ (by rw [zeros_length]; exact Nat.le_refl _), if_pos hi]; rfl
        have hR2 : R = #[.string ⟨(fill (uf s) (zeros d) d).toArray⟩, .int .i64 0, .int .i64 0] := by
          have e : s.size / 2 = d := by omega
          rw [HR.out, if_neg hodd, e]
        have HR2 := Lib.hid hR2; have HL2 := Lib.hid hl2; have HLA := Lib.hid hLat; have HD := Lib.hid hd
        clear hodd hL hR2 hl2 hLat hd
        go_wp2
        clear hmk
        go_loopw [43] (fun i wr => ∃ k : Nat, k ≤ d ∧ i = .int .i64 k ∧ ∃ q, wr = ((W.alloc (.cells (u8s L) 5)).alloc (.cells (u8s (fill (uf s) (zeros d) k)) 5)).drewN q) (fun i _ => d - (intOf i).toNat)
        case atStart => exact ⟨0, by omega, rfl, q, rfl⟩
        case round =>
          obtain ⟨k, hk, rfl, q, rfl⟩ := hrel
          by_cases hlt : k < d
          · have hsz : s.size = 2 * d := HD.out
            have c1 := HLA.out (2 * k) (by omega)
            have c2 := HLA.out (2 * k + 1) (by omega)
            have c3 := u8s_get (fill (uf s) (zeros d) k) k (by rw [HL2.out]; exact hlt)
            have g1 := HG.out (2 * k) (by omega)
            have g2 := HG.out (2 * k + 1) (by omega)
            have hu : (uf s k).toNat = 16 * (hf s (2 * k)).toNat + (hf s (2 * k + 1)).toNat := by
              rw [uf, hf, hf, UInt8.toNat_ofNat', UInt8.toNat_ofNat', UInt8.toNat_ofNat']; omega
            have g3 : (hf s (2 * k)).toNat < 16 := by rw [hf, UInt8.toNat_ofNat']; omega
            have g4 : (hf s (2 * k + 1)).toNat < 16 := by rw [hf, UInt8.toNat_ofNat']; omega
            obtain ⟨x, hx⟩ : ∃ x, x = hf s (2 * k) := ⟨_, rfl⟩
            obtain ⟨z, hz⟩ : ∃ z, z = hf s (2 * k + 1) := ⟨_, rfl⟩
            obtain ⟨y, hy⟩ : ∃ y, y = x.toNat * 16 := ⟨_, rfl⟩
            rw [← hx] at c1 g3 hu
            rw [← hz] at c2 g4 hu
            have f1 : IntKind.u8.wrap (((x.toNat : Nat) : Int) * 16) = (y : Int) := by rw [IntKind.wrap_u8]; omega
            have f2 : (((x.toNat : Nat) : Int) * 16) % 256 = (y : Int) := by omega
            have f3 : bits .or .u8 (y : Int) ((z.toNat : Nat) : Int) = (((uf s k).toNat : Nat) : Int) := by
              rw [u8_or_nat _ _ (by omega) (by omega), hy]
              have h1 := Nat.shiftLeft_add_eq_or_of_lt (i := 4) (b := z.toNat) (by simpa using g4) x.toNat
              rw [Nat.shiftLeft_eq] at h1
              have h2 : x.toNat * 16 ||| z.toNat = x.toNat * 16 + z.toNat := h1.symm
              rw [h2, hu]; omega
            have HX := Lib.hid hx; have HZ := Lib.hid hz; have HY := Lib.hid hy; have HU := Lib.hid hu
            clear hx hz hy hu hsz g1 g2
            go_wp2
            go_region
            all_goals
              go_wp2
              refine ⟨⟨k + 1, by omega, by go_num, _, by rw [u8s_set]; rfl⟩, by simp [intOf]; omega⟩
          · obtain rfl : k = d := by omega
            have hlast : (((W.alloc (.cells (u8s L) 5)).alloc (.cells (u8s (fill (uf s) (zeros k) k)) 5)).drewN q).heap[W.heap.size + 1]? = some (.cells (u8s (fill (uf s) (zeros k) k)) 5 (0, 0)) := by
              have h := heap_alloc_last (W.alloc (.cells (u8s L) 5)) (.cells (u8s (fill (uf s) (zeros k) k)) 5)
              have e : (W.alloc (.cells (u8s L) 5)).heap.size = W.heap.size + 1 := by simp
              rw [e] at h; exact h
            have hconv := run_conv_row (P := Try.prog) (((W.alloc (.cells (u8s L) 5)).alloc (.cells (u8s (fill (uf s) (zeros k) k)) 5)).drewN q) (W.heap.size + 1) k k (fill (uf s) (zeros k) k) 5 (0, 0) 44 9 5 Try.underlying44 Try.underlying5 Try.underlying9 hlast (HL2.out k)
            go_wp2
            go_ret3
            exact ⟨by rw [HR2.out]; rfl, below_drewN (((Below.refl _ _).alloc (Nat.le_refl _) _).alloc (by simp) _) _⟩
end Go.Proofs.Ytooakkelinaelaa
