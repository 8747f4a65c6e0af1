/- wakes, over this dump. -/
import Derived.Test.YtofikcmjpecmoaaA1
namespace Go.Proofs.Ytofikcmjpecmoaa
open Go.RowKit Go.ChangeMaps Go.Maps Go.WideMaps
def l0 : List KV := [(⟨#[98]⟩, ⟨#[49]⟩), (⟨#[97]⟩, ⟨#[50]⟩)]
theorem l0_code : newCode l0 = 0 := by decide
theorem l0_a : fnd l0 ⟨#[97]⟩ = some 1 := by decide
theorem l0_c : fnd l0 ⟨#[99]⟩ = none := by decide
theorem l0_srt : srt l0 = [⟨#[97]⟩, ⟨#[98]⟩] := by
  simp only [srt, l0, List.mergeSort, List.map_cons, List.map_nil]
  have h : ¬ (([98] : List UInt8) ≤ [97]) := by decide
  simp [h]
theorem sz1 (b : UInt8) : (⟨#[b]⟩ : ByteArray).size ≤ maxLen := by show 1 ≤ maxLen; decide
def WP (w w1 : World) (r : Nat) (T : Nat → Int) : Prop := RingAt w1 (fun k => w.heap.size ≤ k) r l0 T ∧ Turn (fun k => w.heap.size ≤ k) w w1
theorem wp_a {w w1 : World} {r : Nat} {T : Nat → Int} (h : WP w w1 r T) : Calls Try.prog 14 #[.pointer (some ⟨r, 0, none⟩), .string ⟨#[97]⟩] w1 fun x w' => x = .returned (.tuple #[.string ⟨#[50]⟩, .int .i64 0]) ∧ Hid (WP w w' r (upd T 1)) := by
  refine (at_find_some h.1 ⟨#[97]⟩ (sz1 _) 1 (by decide) l0_a).mono ?_
  rintro x w' ⟨rfl, h1, h2⟩
  exact ⟨rfl, h1, h.2.trans h2⟩
theorem wp_c {w w1 : World} {r : Nat} {T : Nat → Int} (h : WP w w1 r T) : Calls Try.prog 14 #[.pointer (some ⟨r, 0, none⟩), .string ⟨#[99]⟩] w1 fun x w' => x = .returned (.tuple #[.string ⟨#[]⟩, .int .i64 12]) ∧ w' = w1 :=
  at_find_none h.1 ⟨#[99]⟩ (sz1 _) l0_c
theorem wp_uses {w w1 : World} {r : Nat} (h : WP w w1 r (upd (fun _ => 0) 1)) : Calls Try.prog 20 #[.pointer (some ⟨r, 0, none⟩), .string ⟨#[97]⟩] w1 fun x w' => x = .returned (.int .i64 1) ∧ w' = w1 :=
  at_uses_some h.1 ⟨#[97]⟩ (sz1 _) 1 l0_a (by decide)
theorem wp_names {w w1 : World} {r : Nat} {T : Nat → Int} (h : WP w w1 r T) : Calls Try.prog 12 #[.pointer (some ⟨r, 0, none⟩)] w1 fun x w' => ∃ v, x = .returned v ∧ Hid (LiesS w' v (srt l0) ∧ Turn (fun k => w.heap.size ≤ k) w w') := by
  refine (at_names h.1 (fun k hk => Nat.le_trans h.2.size hk)).mono ?_
  rintro x w' ⟨v, B, rfl, _, ho, _, ht⟩
  exact ⟨v, rfl, LiesS.own ho, h.2.trans ht⟩
theorem LiesS.grow {w w' : World} {v : Value} {xs : List ByteArray} (h : LiesS w v xs) (hb : Below w.heap.size w w') : LiesS w' v xs := by
  obtain ⟨a, cap, rfl, hc⟩ := h
  refine ⟨a, cap, rfl, fun i hi => ?_⟩
  obtain ⟨b, off, rfl, h1⟩ := hc i hi
  refine ⟨b, off, rfl, (hb.cell ?_).trans h1⟩
  exact World.block_lt_of_cell? w _ h1
theorem wp_same {w w5 : World} {v : Value} (h : Hid (LiesS w5 v (srt l0) ∧ Turn (fun k => w.heap.size ≤ k) w w5)) :
    Calls Try.prog 11 #[v, .slice (some ⟨w5.heap.size, 0, none⟩) 2 2] (w5.alloc (.cells #[.string ⟨#[97]⟩, .string ⟨#[98]⟩] 9)) fun x w' => x = .returned (.bool true) ∧ Hid (Below w.heap.size w w') := by
  obtain ⟨h1, h2⟩ := h.out
  rw [l0_srt] at h1
  refine (same_t (w5.alloc (.cells #[.string ⟨#[97]⟩, .string ⟨#[98]⟩] 9)) v (.slice (some ⟨w5.heap.size, 0, none⟩) 2 2) [⟨#[97]⟩, ⟨#[98]⟩] [⟨#[97]⟩, ⟨#[98]⟩] (h1.grow ((Below.refl _ _).alloc (Nat.le_refl _) _)) ?_ (by decide)).mono ?_
  · refine ⟨_, 2, rfl, fun i hi => ⟨w5.heap.size, 0, rfl, ?_⟩⟩
    have hb := heap_alloc_new w5 (.cells #[.string ⟨#[97]⟩, .string ⟨#[98]⟩] 9)
    rcases i with _ | _ | i
    · exact cell_of hb rfl
    · exact cell_of hb rfl
    · exact absurd hi (by simp)
  · rintro x w' ⟨b, rfl, hb, d, rfl⟩
    obtain rfl : b = true := hb.2 rfl
    exact ⟨rfl, Below.drewN ((h2.alloc _).toBelow (Nat.le_refl _) (fun k hk => by omega)) d⟩
set_option maxRecDepth 100000 in
set_option maxHeartbeats 1000000 in
theorem wakes_t (w : World) : Calls Try.prog 10 #[] w fun e w' => e = .returned (.bool true) ∧ Below w.heap.size w w' := by
  have hnew : Calls Try.prog 7 #[.slice (some ⟨w.heap.size, 0, none⟩) 2 2] (w.alloc (.cells #[.string ⟨#[98]⟩, .string ⟨#[49]⟩, .string ⟨#[97]⟩, .string ⟨#[50]⟩] 37)) fun x w' =>
      ∃ r, x = .returned (.tuple #[.pointer (some ⟨r, 0, none⟩), .int .i64 0]) ∧ Hid (WP w w' r (fun _ => 0)) := by
    refine (at_new (w.alloc (.cells #[.string ⟨#[98]⟩, .string ⟨#[49]⟩, .string ⟨#[97]⟩, .string ⟨#[50]⟩] 37)) (.slice (some ⟨w.heap.size, 0, none⟩) 2 2) l0 ?_).mono ?_
    · refine ⟨_, 2, rfl, fun i hi => ⟨w.heap.size, 0, rfl, by simp, ?_⟩⟩
      have hb := heap_alloc_new w (.cells #[.string ⟨#[98]⟩, .string ⟨#[49]⟩, .string ⟨#[97]⟩, .string ⟨#[50]⟩] 37)
      rcases i with _ | _ | i
      · exact ⟨cell_of hb rfl, cell_of hb rfl⟩
      · exact ⟨cell_of hb rfl, cell_of hb rfl⟩
      · exact absurd hi (by simp [l0])
    · rintro x w' ⟨hb, ⟨_, r, rfl, hr⟩ | ⟨h0, _⟩⟩
      · refine ⟨r, rfl, hr.shrink (fun k _ hk => by simp at hk; omega), ((Turn.refl _ w).alloc _).below hb (fun k _ hk => by simp at hk; omega)⟩
      · exact absurd l0_code h0
  have HN := Lib.hid hnew
  clear hnew
  go_enter Try.func10, Try.ntmps10
  go_wp2_with (go_at_call 7; refine HN.out.mono ?_; rintro e1 w1 ⟨r, rfl, HP1⟩)
  go_wp2_with (go_at_call_of 14 (Value.string ⟨#[97]⟩); refine (wp_a HP1.out).mono ?_; rintro e2 w2 ⟨rfl, HP2⟩)
  go_wp2_with (go_at_call_of 14 (Value.string ⟨#[99]⟩); refine (wp_c HP2.out).mono ?_; rintro e3 w3 ⟨rfl, rfl⟩)
  go_wp2_with (go_at_call 20; refine (wp_uses HP2.out).mono ?_; rintro e4 w4 ⟨rfl, rfl⟩)
  go_wp2_with (go_at_call 12; refine (wp_names HP2.out).mono ?_; rintro e5 w5 ⟨v, rfl, HP5⟩)
  refine (wp_same HP5).mono ?_
  rintro e6 w6 ⟨rfl, HP6⟩
  go_wp2
  go_ret
  exact ⟨rfl, HP6.out⟩
end Go.Proofs.Ytofikcmjpecmoaa
