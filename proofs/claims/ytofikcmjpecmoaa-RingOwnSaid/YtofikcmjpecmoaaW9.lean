/- ref.Same, over this dump. -/
import Derived.Test.YtofikcmjpecmoaaW8
namespace Go.Proofs.Ytofikcmjpecmoaa
open Go.RowKit Go.ChangeMaps Go.Maps Go.WideMaps
/-- a list of strings lies at a slice -/
def LiesS (w : World) (v : Value) (xs : List ByteArray) : Prop := ∃ a cap, v = .slice a xs.length cap ∧ ∀ i (h : i < xs.length), ∃ b off, a = some ⟨b, off, none⟩ ∧ w.cell? ⟨b, off + i, none⟩ = some (.string xs[i])
theorem LiesS.own {w : World} {base : Nat} {v : Value} {n : Nat} {xs : List ByteArray} (h : w.ownsRow base 9 1 v n (xs.map Value.string)) : LiesS w v xs := by
  have hl : xs.length = n := by have := h.1; simpa using this
  rcases h.2 with ⟨rfl, rfl⟩ | ⟨g, cap, cur, rfl, hg, hh, h1, h2, h3, h4⟩
  · exact ⟨none, 0, by rw [hl], fun i hi => by omega⟩
  · refine ⟨_, cap, by rw [hl], fun i hi => ⟨g, 0, rfl, ?_⟩⟩
    have := h.cells (g := g) rfl i (.string xs[i]) (by simp [hi])
    rw [Nat.zero_add]
    rcases Nat.eq_zero_or_pos i with rfl | hj0
    · simpa [Addr.add] using this
    · simpa [Addr.add, Nat.ne_of_gt hj0] using this
set_option maxRecDepth 100000 in
set_option maxHeartbeats 1000000 in
theorem same_t (w : World) (v1 v2 : Value) (xs ys : List ByteArray) (h1 : LiesS w v1 xs) (h2 : LiesS w v2 ys) (hlen : ys.length ≤ 1000) :
    Calls Try.prog 11 #[v1, v2] w fun e w' => ∃ b : Bool, e = .returned (.bool b) ∧ (b = true ↔ xs = ys) ∧ ∃ d, w' = w.drewN d := by
  obtain ⟨a1, c1, rfl, hc1⟩ := h1
  obtain ⟨a2, c2, rfl, hc2⟩ := h2
  by_cases hl : xs.length = ys.length
  · rw [hl]
    have HC1 := Lib.hid hc1
    have HC2 := Lib.hid hc2
    obtain ⟨n, hn⟩ : ∃ n, n = ys.length := ⟨_, rfl⟩
    have HN := Lib.hid (And.intro hl hn)
    rw [← hn] at hlen ⊢
    clear hc1 hc2 hl hn
    go_enter Try.func11, Try.ntmps11
    go_wp2
    go_loopw [5] (fun v5 wr => ∃ (k d : Nat), v5 = .int .i64 (k : Nat) ∧ k ≤ n ∧ wr = w.drewN d ∧ xs.take k = ys.take k) (fun v5 _ => n - (intOf v5).toNat)
    case atStart => exact ⟨0, 0, rfl, Nat.zero_le _, rfl, rfl⟩
    case round =>
      obtain ⟨k, d, rfl, hk, rfl, htk⟩ := hrel
      have HT := Lib.hid htk
      clear htk
      by_cases hlt : k < n
      · have t1 : decide ((k : Int) < (n : Int)) = true := decide_eq_true (by omega)
        obtain ⟨b1, o1, rfl, d1⟩ := HC1.out k (by rw [HN.out.1, ← HN.out.2]; exact hlt)
        obtain ⟨b2, o2, rfl, d2⟩ := HC2.out k (by rw [← HN.out.2]; exact hlt)
        obtain ⟨x, hx⟩ : ∃ x, x = xs[k]'(by rw [HN.out.1, ← HN.out.2]; exact hlt) := ⟨_, rfl⟩
        obtain ⟨y, hy⟩ : ∃ y, y = ys[k]'(by rw [← HN.out.2]; exact hlt) := ⟨_, rfl⟩
        rw [← hx] at d1
        rw [← hy] at d2
        have HX := Lib.hid (And.intro hx hy)
        clear hx hy
        by_cases hxy : x = y
        · subst hxy
          go_wp2
          go_quiet (fail)
          go_wp2
          refine ⟨⟨k + 1, d + nq, by simp, by omega, rfl, ?_⟩, by simp [intOf]; omega⟩
          have h1 : k < xs.length := by rw [HN.out.1, ← HN.out.2]; exact hlt
          have h2 : k < ys.length := by rw [← HN.out.2]; exact hlt
          rw [List.take_succ_eq_append_getElem h1, List.take_succ_eq_append_getElem h2, HT.out, ← HX.out.1, ← HX.out.2]
        · have t3 : (x.toList == y.toList) = false := by
            rw [ByteArray.toList_eq, ByteArray.toList_eq]
            exact beq_false_of_ne (fun h => hxy (ba_ext h))
          have HXY := Lib.hid hxy
          clear hxy
          go_wp2
          go_quiet (fail)
          go_wp2
          go_ret
          refine ⟨false, rfl, ⟨fun h => (by cases h), fun h => ?_⟩, d + nq, by simp [World.drewN, Nat.add_assoc]⟩
          subst h
          exact absurd (HX.out.1.trans HX.out.2.symm) HXY.out
      · obtain rfl : k = n := by omega
        have t1 : decide ((k : Int) < (k : Int)) = false := decide_eq_false (by omega)
        go_wp2
        go_ret
        have h1 := HT.out
        rw [List.take_of_length_le (by rw [HN.out.1, ← HN.out.2]; exact Nat.le_refl _), List.take_of_length_le (by rw [← HN.out.2]; exact Nat.le_refl _)] at h1
        exact ⟨true, rfl, ⟨fun _ => h1, fun _ => rfl⟩, _, rfl⟩
  · have t1 : ¬ ((xs.length : Int) = (ys.length : Int)) := by omega
    have HL := Lib.hid hl
    clear hc1 hc2 hl
    go_enter Try.func11, Try.ntmps11
    go_wp2
    go_ret
    exact ⟨false, rfl, ⟨fun h => (by cases h), fun h => absurd (by rw [h]) HL.out⟩, 0, rfl⟩
end Go.Proofs.Ytofikcmjpecmoaa
