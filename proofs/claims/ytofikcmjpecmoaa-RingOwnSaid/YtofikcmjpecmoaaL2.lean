/- RingMakes returns true: the walk. -/
import Derived.Test.YtofikcmjpecmoaaA2
namespace Go.Proofs.Ytofikcmjpecmoaa
open Go.RowKit Go.ChangeMaps Go.Maps Go.WideMaps
/-- a copy of the list, its row -/
theorem step_copied (w : World) (v : Value) (l : List KV) (h : Lies w v l) (hbig : l.length * 32 ≤ 140737488355328) :
    Calls Try.prog 8 #[v] w fun y w' => ∃ v', y = .returned v' ∧ Hid (w'.ownsRow w.heap.size 37 2 v' l.length (flat l) ∧ Below w.heap.size w w') := by
  refine (copied_t w v l h hbig).mono ?_
  rintro y w' ⟨v', rfl, h1, h2⟩
  exact ⟨v', rfl, h1, h2⟩
theorem step_new {w1 : World} {v1 : Value} {l : List KV} (h0 : newCode l = 0) (h : Lies w1 v1 l) :
    Calls Try.prog 7 #[v1] w1 fun y w' => ∃ r, y = .returned (.tuple #[.pointer (some ⟨r, 0, none⟩), .int .i64 0]) ∧ Hid (RingAt w' (fun k => w1.heap.size ≤ k) r l (fun _ => 0) ∧ Below w1.heap.size w1 w') := by
  refine (at_new w1 v1 l h).mono ?_
  rintro y w' ⟨hb2, ⟨_, r, rfl, hr⟩ | ⟨h1, _⟩⟩
  · exact ⟨r, rfl, hr, hb2⟩
  · exact absurd h0 h1
theorem step_new_bad {w w1 : World} {v1 : Value} {l : List KV} (h0 : newCode l ≠ 0) (h : Lies w1 v1 l) (hb : Below w.heap.size w w1) :
    Calls Try.prog 7 #[v1] w1 fun y w' => y = .returned (.tuple #[.pointer none, .int .i64 (newCode l)]) ∧ Hid (Below w.heap.size w w') := by
  refine (at_new w1 v1 l h).mono ?_
  rintro y w' ⟨hb2, ⟨h1, _⟩ | ⟨_, rfl⟩⟩
  · exact absurd h1 h0
  · exact ⟨rfl, hb.trans (hb2.mono hb.size)⟩
theorem step_rnew {w w1 w2 : World} {v : Value} {l : List KV} {r : Nat} {T : Nat → Int} (h0 : newCode l = 0) (h : Lies w v l) (hb1 : Below w.heap.size w w2) (ha : w.heap.size ≤ w1.heap.size) (hr : RingAt w2 (fun k => w1.heap.size ≤ k) r l T) :
    Calls Try.prog 9 #[v] w2 fun y w' => ∃ x, y = .returned (.tuple #[.pointer (some ⟨x, 0, none⟩), .int .i64 0]) ∧ Hid (Both w w' r x l T (fun _ => 0) ∧ Below w2.heap.size w2 w') := by
  refine (rnew_t w2 v l (h.grow (Nat.le_refl _) hb1)).mono ?_
  rintro y w' ⟨hb2, ⟨_, x, rfl, hx⟩ | ⟨h1, _⟩⟩
  · exact ⟨x, rfl, both_made hb1 ha hr hx hb2, hb2⟩
  · exact absurd h0 h1
theorem step_rnew_bad {w w2 : World} {v : Value} {l : List KV} (h0 : newCode l ≠ 0) (h : Lies w v l) (hb1 : Below w.heap.size w w2) :
    Calls Try.prog 9 #[v] w2 fun y w' => y = .returned (.tuple #[.pointer none, .int .i64 (newCode l)]) ∧ Hid (Below w.heap.size w w') := by
  refine (rnew_t w2 v l (h.grow (Nat.le_refl _) hb1)).mono ?_
  rintro y w' ⟨hb2, ⟨h1, _⟩ | ⟨_, rfl⟩⟩
  · exact absurd h1 h0
  · exact ⟨rfl, hb1.trans (hb2.mono hb1.size)⟩
theorem step_wakes {w w2 : World} (hb : Below w.heap.size w w2) : Calls Try.prog 10 #[] w2 fun y w' => y = .returned (.bool true) ∧ Hid (Below w.heap.size w w') := by
  refine (wakes_t w2).mono ?_
  rintro y w' ⟨rfl, hb2⟩
  exact ⟨rfl, hb.trans (hb2.mono hb.size)⟩
set_option maxRecDepth 100000 in
set_option maxHeartbeats 4000000 in
theorem makes_t (w : World) (v : Value) (l : List KV) (h : Lies w v l) (hbig : l.length * 32 ≤ 140737488355328) :
    Calls Try.prog 3 #[v] w fun y w' => y = .returned (.bool true) ∧ Below w.heap.size w w' := by
  have HL := Lib.hid h
  have HC := Lib.hid (step_copied w v l h hbig)
  by_cases h0 : newCode l = 0
  · have H0 := Lib.hid h0
    clear h hbig h0
    go_enter Try.func3, Try.ntmps3
    go_wp2_with (go_at_call 8; refine HC.out.mono ?_; rintro e1 w1 ⟨v1, rfl, H1⟩)
    go_wp2_with (go_at_call 7; refine (step_new H0.out (Lies.own H1.out.1)).mono ?_; rintro e2 w2 ⟨r, rfl, H2⟩)
    go_wp2_with (go_at_call 9; refine (step_rnew H0.out HL.out (H1.out.2.trans (H2.out.2.mono H1.out.2.size)) H1.out.2.size H2.out.1).mono ?_; rintro e3 w3 ⟨x, rfl, H3⟩)
    go_wp2_with (go_at_call 10; refine (both_wakes H3.out.1).mono ?_; rintro e4 w4 ⟨rfl, H4⟩)
    go_wp2_with (go_at_call 12; refine (both_names H4.out).mono ?_; rintro e5 w5 ⟨v5, rfl, H5⟩)
    go_wp2_with (go_at_call 13; refine (both_rnames H5.out.1 H5.out.2).mono ?_; rintro e6 w6 ⟨v6, rfl, H6⟩)
    go_wp2_with (go_at_call 11; refine (both_same H6.out.1 H6.out.2.1 H6.out.2.2).mono ?_; rintro e7 w7 ⟨rfl, H7⟩)
    go_ret
    exact ⟨rfl, H7.out.below⟩
  · have H0 := Lib.hid h0
    obtain ⟨c, hc⟩ : ∃ c : Int, c = (newCode l : Int) := ⟨_, rfl⟩
    have t1 : c ≠ 0 := by omega
    have t2 : (c != 0) = true := by simpa using t1
    have HCC := Lib.hid hc
    have S2 : ∀ w1 v1, Lies w1 v1 l → Below w.heap.size w w1 → Calls Try.prog 7 #[v1] w1 fun y w' => y = .returned (.tuple #[.pointer none, .int .i64 c]) ∧ Hid (Below w.heap.size w w') := fun w1 v1 k1 k2 => by
      rw [hc]; exact step_new_bad h0 k1 k2
    have S3 : ∀ w2, Below w.heap.size w w2 → Calls Try.prog 9 #[v] w2 fun y w' => y = .returned (.tuple #[.pointer none, .int .i64 c]) ∧ Hid (Below w.heap.size w w') := fun w2 k => by
      rw [hc]; exact step_rnew_bad h0 h k
    have HS2 := Lib.hid S2
    have HS3 := Lib.hid S3
    clear h hbig h0 hc S2 S3
    go_enter Try.func3, Try.ntmps3
    go_wp2_with (go_at_call 8; refine HC.out.mono ?_; rintro e1 w1 ⟨v1, rfl, H1⟩)
    go_wp2_with (go_at_call 7; refine (HS2.out _ _ (Lies.own H1.out.1) H1.out.2).mono ?_; rintro e2 w2 ⟨rfl, H2⟩)
    go_wp2_with (go_at_call 9; refine (HS3.out _ H2.out).mono ?_; rintro e3 w3 ⟨rfl, H3⟩)
    go_wp2_with (go_at_call 10; refine (step_wakes H3.out).mono ?_; rintro e4 w4 ⟨rfl, H4⟩)
    go_ret
    exact ⟨rfl, H4.out⟩
end Go.Proofs.Ytofikcmjpecmoaa
