/- ref: At, Find, Only, Uses, over this dump. -/
import Derived.Test.YtofikcmjpecmoaaR3
namespace Go.Proofs.Ytofikcmjpecmoaa
open Go.RowKit Go.ChangeMaps Go.Maps Go.WideMaps
section
variable {w : World} {Z : Nat → Prop} {x : Nat} {vL vT : Value} {l : List KV} {T : Nat → Int}
/-- the list of a ref ring as the walk wants it -/
theorem RefIn.listed (h : RefIn w Z x vL vT l T) : ∃ a cap, vL = .slice a l.length cap ∧ ∀ k (hk : k < l.length), ∃ g, a = some ⟨g, 0, none⟩ ∧ w.cell? ⟨g, k * 2, none⟩ = some (.string l[k].1) ∧ w.cell? ⟨g, k * 2 + 1, none⟩ = some (.string l[k].2) := by
  rcases Nat.eq_zero_or_pos l.length with h0 | hpos
  · rcases h.hl.2 with ⟨rfl, _⟩ | ⟨g, cap, cur, rfl, _⟩
    · exact ⟨none, 0, by rw [h0], fun k hk => by omega⟩
    · exact ⟨_, _, rfl, fun k hk => by omega⟩
  · obtain ⟨g, cap, rfl, _, _, _, hc⟩ := ownsRow_cells h.hl hpos
    exact ⟨_, _, rfl, fun k hk => ⟨g, rfl, hc _ _ (flat_get l k hk).1, hc _ _ (flat_get l k hk).2⟩⟩
set_option maxRecDepth 100000 in
set_option maxHeartbeats 1000000 in
theorem rat_t (h : RefIn w Z x vL vT l T) (s : ByteArray) :
    Calls Try.prog 17 #[.pointer (some ⟨x, 0, none⟩), .string s] w fun e w' => e = .returned (.int .i64 (plc (fnd l s))) ∧ w' = w := by
  have c0 : w.cell? ⟨x, 0, none⟩ = some vL := cell_of h.hx rfl
  obtain ⟨a, cap, rfl, hc⟩ := h.listed
  have HC := Lib.hid hc
  have hlen := h.len
  obtain ⟨n, hn⟩ : ∃ n, n = l.length := ⟨_, rfl⟩
  have HN := Lib.hid hn
  rw [← hn] at c0 hlen
  obtain ⟨p, hp⟩ : ∃ p, p = plc (fnd l s) := ⟨_, rfl⟩
  have HP := Lib.hid hp
  rw [← hp]
  clear hc hn h hp
  go_enter Try.func17, Try.ntmps17
  go_wp2
  go_loopw [5] (fun v5 wr => ∃ k : Nat, v5 = .int .i64 (k : Nat) ∧ k ≤ n ∧ wr = w ∧ ∀ j (h : j < l.length), j < k → l[j].1 ≠ s) (fun v5 _ => n - (intOf v5).toNat)
  case atStart => exact ⟨0, rfl, Nat.zero_le _, rfl, fun j _ hj => by omega⟩
  case round =>
    obtain ⟨k, rfl, hk, hW, hno⟩ := hrel
    obtain rfl : w = wr := hW.symm
    have HNO := Lib.hid hno
    clear hno hW
    by_cases hlt : k < n
    · have t1 : decide ((k : Int) < (n : Int)) = true := decide_eq_true (by omega)
      have hkl : k < l.length := by rw [← HN.out]; exact hlt
      obtain ⟨g, rfl, d0, d1⟩ := HC.out k hkl
      clear d1
      obtain ⟨y, hy⟩ : ∃ y, y = l[k].1 := ⟨_, rfl⟩
      rw [← hy] at d0
      have HKL := Lib.hid hkl
      have HY := Lib.hid (show ∀ h : k < l.length, l[k].1 = y from fun _ => hy.symm)
      clear hkl hy
      by_cases hys : y = s
      · subst hys
        have HX : Hid (p = (k : Int)) := by
          show p = (k : Int)
          rw [HP.out, fnd_at HKL.out HNO.out (HY.out HKL.out)]; rfl
        go_wp2
        go_ret
        rw [HX.out]
        exact ⟨rfl, rfl⟩
      · have t3 : (y.toList == s.toList) = false := by
          rw [ByteArray.toList_eq, ByteArray.toList_eq]
          exact beq_false_of_ne (fun h => hys (ba_ext h))
        have HYS := Lib.hid hys
        clear hys
        go_wp2
        refine ⟨⟨k + 1, by simp, by omega, trivial, fun j hj hjk => ?_⟩, by simp [intOf]; omega⟩
        rcases Nat.lt_or_ge j k with h1 | h1
        · exact HNO.out j hj h1
        · obtain rfl : j = k := by omega
          rw [HY.out hj]; exact HYS.out
    · obtain rfl : k = n := by omega
      have t1 : decide ((k : Int) < (k : Int)) = false := decide_eq_false (by omega)
      have HX : Hid (p = -1) := by
        show p = -1
        rw [HP.out, fnd_no (fun j hj => HNO.out j hj (by rw [HN.out]; exact hj))]; rfl
      go_wp2
      go_ret
      rw [HX.out]
      exact ⟨rfl, rfl⟩
/-- the counts of a ref ring as the walk wants them -/
theorem RefIn.counted (h : RefIn w Z x vL vT l T) (i : Nat) (hi : i < l.length) : ∃ gT cT gL cL, vT = .slice (some ⟨gT, 0, none⟩) l.length cT ∧ vL = .slice (some ⟨gL, 0, none⟩) l.length cL ∧ vT.ownBlock = some gT ∧ x ≠ gT ∧ gL ≠ gT ∧
    w.cell? ⟨gT, i, none⟩ = some (.int .i64 (T i)) ∧ w.frozen? ⟨gT, i, none⟩ = false ∧ w.cell? ⟨gL, i * 2, none⟩ = some (.string l[i].1) ∧ w.cell? ⟨gL, i * 2 + 1, none⟩ = some (.string l[i].2) := by
  obtain ⟨gT, cT, e1, o1, _, ⟨c, hc⟩, k1⟩ := ownsRow_cells h.ht (by omega)
  obtain ⟨gL, cL, e2, o2, _, ⟨c2, hc2⟩, k2⟩ := ownsRow_cells h.hl (by omega)
  refine ⟨gT, cT, gL, cL, e1, e2, o1, fun e => ?_, fun e => ?_, k1 _ _ (cnts_get _ _ _ hi), frozen_of hc, k2 _ _ (flat_get l i hi).1, k2 _ _ (flat_get l i hi).2⟩
  · have := h.hx; rw [e, hc] at this; simp at this
  · rw [e, hc] at hc2; simp at hc2
set_option maxRecDepth 100000 in
set_option maxHeartbeats 1000000 in
theorem rfind_some (h : RefIn w Z x vL vT l T) (s : ByteArray) (i : Nat) (hi : i < l.length) (hf : fnd l s = some i) :
    Calls Try.prog 15 #[.pointer (some ⟨x, 0, none⟩), .string s] w fun e w' => e = .returned (.tuple #[.string l[i].2, .int .i64 0]) ∧ RefAt w' Z x l (upd T i) ∧ Turn Z w w' := by
  have hat := rat_t h s
  rw [hf] at hat
  have hat2 : Calls Try.prog 17 #[.pointer (some ⟨x, 0, none⟩), .string s] w fun e w' => e = .returned (.int .i64 (i : Nat)) ∧ w' = w := hat
  have c0 : w.cell? ⟨x, 0, none⟩ = some vL := cell_of h.hx rfl
  have c1 : w.cell? ⟨x, 1, none⟩ = some vT := cell_of h.hx rfl
  obtain ⟨gT, cT, gL, cL, rfl, rfl, o1, n1, n2, k1, k2, k3, k4⟩ := h.counted i hi
  have hlen := h.len
  have hin : i < l.length := hi
  obtain ⟨t', ht'⟩ : ∃ t', t' = bump (T i) := ⟨_, rfl⟩
  have t5 : wrap64 (T i + 1) = t' := by rw [ht', bump, IntKind.wrap_i64]; unfold wrap64; rfl
  have t6 : IntKind.i64.wrap (T i + 1) = t' := ht'.symm
  have hres := h.told hi o1
  rw [← ht'] at hres
  have HRES := Lib.hid hres
  have HZT := Lib.hid (h.zt gT o1)
  obtain ⟨t, ht⟩ : ∃ t, t = T i := ⟨_, rfl⟩
  rw [← ht] at k1 t5 t6
  obtain ⟨n, hn⟩ : ∃ n, n = l.length := ⟨_, rfl⟩
  obtain ⟨ky, hky⟩ : ∃ ky, ky = l[i].2 := ⟨_, rfl⟩
  rw [← hn] at c0 c1 hlen hin
  rw [← hky] at k4 ⊢
  have HI := Lib.hid hi
  have HAT := Lib.hid hat2
  clear hat hat2 hres h hf ht ht' hn hky k3 o1 hi
  go_enter Try.func15, Try.ntmps15
  go_wp2_with (go_at_call 17; refine HAT.out.mono ?_; rintro e1 w1 ⟨rfl, rfl⟩)
  go_region
  go_wp2
  go_ret2
  exact ⟨rfl, ⟨_, _, HRES.out.same (fun _ _ _ => rfl)⟩, ((Turn.refl Z _).drew).setCell HZT.out _⟩
theorem rfind_none (h : RefIn w Z x vL vT l T) (s : ByteArray) (hf : fnd l s = none) :
    Calls Try.prog 15 #[.pointer (some ⟨x, 0, none⟩), .string s] w fun e w' => e = .returned (.tuple #[.string ⟨#[]⟩, .int .i64 12]) ∧ w' = w := by
  have hat := rat_t h s
  rw [hf] at hat
  have hat2 : Calls Try.prog 17 #[.pointer (some ⟨x, 0, none⟩), .string s] w fun e w' => e = .returned (.int .i64 (-1)) ∧ w' = w := hat
  have HAT := Lib.hid hat2
  clear hat hat2 h hf
  go_enter Try.func15, Try.ntmps15
  go_wp2_with (go_at_call 17; refine HAT.out.mono ?_; rintro e1 w1 ⟨rfl, rfl⟩)
  go_ret2
  exact ⟨rfl, rfl⟩
theorem ruses_none (h : RefIn w Z x vL vT l T) (s : ByteArray) (hf : fnd l s = none) :
    Calls Try.prog 21 #[.pointer (some ⟨x, 0, none⟩), .string s] w fun e w' => e = .returned (.int .i64 0) ∧ w' = w := by
  have hat := rat_t h s
  rw [hf] at hat
  have hat2 : Calls Try.prog 17 #[.pointer (some ⟨x, 0, none⟩), .string s] w fun e w' => e = .returned (.int .i64 (-1)) ∧ w' = w := hat
  have HAT := Lib.hid hat2
  clear hat hat2 h hf
  go_enter Try.func21, Try.ntmps21
  go_wp2_with (go_at_call 17; refine HAT.out.mono ?_; rintro e1 w1 ⟨rfl, rfl⟩)
  go_ret
  exact ⟨rfl, rfl⟩
set_option maxRecDepth 100000 in
theorem ruses_some (h : RefIn w Z x vL vT l T) (s : ByteArray) (i : Nat) (hi : i < l.length) (hf : fnd l s = some i) :
    Calls Try.prog 21 #[.pointer (some ⟨x, 0, none⟩), .string s] w fun e w' => e = .returned (.int .i64 (T i)) ∧ w' = w := by
  have hat := rat_t h s
  rw [hf] at hat
  have hat2 : Calls Try.prog 17 #[.pointer (some ⟨x, 0, none⟩), .string s] w fun e w' => e = .returned (.int .i64 (i : Nat)) ∧ w' = w := hat
  have c1 : w.cell? ⟨x, 1, none⟩ = some vT := cell_of h.hx rfl
  obtain ⟨gT, cT, gL, cL, rfl, rfl, o1, n1, n2, k1, k2, k3, k4⟩ := h.counted i hi
  have hlen := h.len
  have hin : i < l.length := hi
  obtain ⟨t, ht⟩ : ∃ t, t = T i := ⟨_, rfl⟩
  rw [← ht] at k1 ⊢
  obtain ⟨n, hn⟩ : ∃ n, n = l.length := ⟨_, rfl⟩
  rw [← hn] at c1 hlen hin
  have HAT := Lib.hid hat2
  clear hat hat2 h hf ht hn k2 k3 k4 o1 hi n1 n2
  go_enter Try.func21, Try.ntmps21
  go_wp2_with (go_at_call 17; refine HAT.out.mono ?_; rintro e1 w1 ⟨rfl, rfl⟩)
  go_ret
  exact ⟨rfl, rfl⟩
set_option maxRecDepth 100000 in
set_option maxHeartbeats 1000000 in
theorem ronly_one {e : KV} (h : RefIn w Z x vL vT [e] T) :
    Calls Try.prog 19 #[.pointer (some ⟨x, 0, none⟩)] w fun y w' => y = .returned (.tuple #[.string e.1, .string e.2, .int .i64 0]) ∧ RefAt w' Z x [e] (upd T 0) ∧ Turn Z w w' := by
  have c0 : w.cell? ⟨x, 0, none⟩ = some vL := cell_of h.hx rfl
  have c1 : w.cell? ⟨x, 1, none⟩ = some vT := cell_of h.hx rfl
  obtain ⟨gT, cT, gL, cL, rfl, rfl, o1, n1, n2, k1, k2, k3, k4⟩ := h.counted 0 (by simp)
  obtain ⟨t', ht'⟩ : ∃ t', t' = bump (T 0) := ⟨_, rfl⟩
  have t5 : wrap64 (T 0 + 1) = t' := by rw [ht', bump, IntKind.wrap_i64]; unfold wrap64; rfl
  have t6 : IntKind.i64.wrap (T 0 + 1) = t' := ht'.symm
  have hres := h.told (i := 0) (by simp) o1
  rw [← ht'] at hres
  have HRES := Lib.hid hres
  have HZT := Lib.hid (h.zt gT o1)
  obtain ⟨t, ht⟩ : ∃ t, t = T 0 := ⟨_, rfl⟩
  rw [← ht] at k1 t5 t6
  obtain ⟨nm, ky⟩ := e
  have k5 : w.cell? ⟨gL, 0, none⟩ = some (.string nm) := k3
  have k6 : w.cell? ⟨gL, 1, none⟩ = some (.string ky) := k4
  have c0' : w.cell? ⟨x, 0, none⟩ = some (.slice (some ⟨gL, 0, none⟩) 1 cL) := c0
  have c1' : w.cell? ⟨x, 1, none⟩ = some (.slice (some ⟨gT, 0, none⟩) 1 cT) := c1
  clear hres h ht ht' k3 k4 o1 c0 c1
  go_enter Try.func19, Try.ntmps19
  go_wp2
  go_region
  go_wp2
  go_quiet (fail)
  go_wp2
  go_ret3
  exact ⟨rfl, ⟨_, _, HRES.out.same (fun _ _ _ => rfl)⟩, by
    have ht := ((Turn.refl Z w).drew).setCell (p := ⟨gT, 0, none⟩) HZT.out (.int .i64 t')
    exact ⟨ht.os, ht.tape, ht.output, ht.size, ht.block⟩⟩
theorem ronly_other (h : RefIn w Z x vL vT l T) (hl : l.length ≠ 1) :
    Calls Try.prog 19 #[.pointer (some ⟨x, 0, none⟩)] w fun y w' => y = .returned (.tuple #[.string ⟨#[]⟩, .string ⟨#[]⟩, .int .i64 12]) ∧ w' = w := by
  have c0 : w.cell? ⟨x, 0, none⟩ = some vL := cell_of h.hx rfl
  obtain ⟨a, cap, rfl, _⟩ := h.listed
  have t1 : (l.length : Int) ≠ 1 := by omega
  clear h hl
  go_enter Try.func19, Try.ntmps19
  go_wp2
  go_ret3
  exact ⟨rfl, rfl⟩
end
end Go.Proofs.Ytofikcmjpecmoaa
