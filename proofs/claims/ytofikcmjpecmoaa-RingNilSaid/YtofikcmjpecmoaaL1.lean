/- RingNil returns true: the walk. -/
import Derived.Test.YtofikcmjpecmoaaW10
namespace Go.Proofs.Ytofikcmjpecmoaa
open Go.RowKit Go.ChangeMaps Go.Maps Go.WideMaps
set_option maxRecDepth 100000 in
set_option maxHeartbeats 4000000 in
theorem nil_t (w : World) (s : ByteArray) (hs : s.size ≤ maxLen) : Calls Try.prog 6 #[.string s] w fun e w' => e = .returned (.bool true) ∧ Below w.heap.size w w' := by
  have c0 : (w.alloc (.cells #[.map none, .slice none 0 0, .int .u32 0, .int .i32 0, .int .u32 0, .slice none 0 0] 67)).cell? ⟨w.heap.size, 0, none⟩ = some (.map none) := cell_of (heap_alloc_new _ _) rfl
  have hb0 := (Below.refl w.heap.size w).alloc (Nat.le_refl _) (.cells #[.map none, .slice none 0 0, .int .u32 0, .int .i32 0, .int .u32 0, .slice none 0 0] 67)
  have hwk : Calls Try.prog 10 #[] (w.alloc (.cells #[.map none, .slice none 0 0, .int .u32 0, .int .i32 0, .int .u32 0, .slice none 0 0] 67)) fun e w' => e = .returned (.bool true) ∧ Hid (Below w.heap.size w w') ∧ w'.cell? ⟨w.heap.size, 0, none⟩ = some (.map none) := by
    refine (wakes_t (w.alloc (.cells #[.map none, .slice none 0 0, .int .u32 0, .int .i32 0, .int .u32 0, .slice none 0 0] 67))).mono ?_
    rintro e w' ⟨rfl, hb⟩
    exact ⟨rfl, hb0.trans (hb.mono (by simp)), (hb.cell (by simp)).trans c0⟩
  have HW := Lib.hid hwk
  have HS := Lib.hid hs
  clear hwk hb0 hs
  go_enter Try.func6, Try.ntmps6
  go_wp2_with (first
    | (go_at_call_of 14 (Value.pointer none); refine (find_nil s _).mono ?_; rintro e1 w1 ⟨rfl, rfl⟩)
    | (go_at_call 14; refine (find_zero w.heap.size s _ c0).mono ?_; rintro e1 w1 ⟨rfl, rfl⟩)
    | (go_at_call_of 18 (Value.pointer none); refine (only_nil _).mono ?_; rintro e1 w1 ⟨rfl, rfl⟩)
    | (go_at_call 18; refine (only_zero w.heap.size _ c0).mono ?_; rintro e1 w1 ⟨rfl, rfl⟩))
  go_wp2_with (go_at_call 10; refine HW.out.mono ?_; rintro e2 w2 ⟨rfl, HB, c1⟩)
  go_wp2_with (first
    | (go_at_call_of 16 (Value.pointer none); refine (has_nil s _).mono ?_; rintro e1 w1 ⟨rfl, rfl⟩)
    | (go_at_call 16; refine (has_zero w.heap.size s HS.out _ c1).mono ?_; rintro e1 w1 ⟨rfl, rfl⟩)
    | (go_at_call_of 12 (Value.pointer none); refine (names_nil _).mono ?_; rintro e1 w1 ⟨rfl, rfl⟩)
    | (go_at_call 12; refine (names_zero w.heap.size _ c1).mono ?_; rintro e1 w1 ⟨rfl, rfl⟩)
    | (go_at_call_of 20 (Value.pointer none); refine (uses_nil s _).mono ?_; rintro e1 w1 ⟨rfl, rfl⟩)
    | (go_at_call 20; refine (uses_zero w.heap.size s HS.out _ c1).mono ?_; rintro e1 w1 ⟨rfl, rfl⟩))
  go_ret
  exact ⟨rfl, HB.out⟩
end Go.Proofs.Ytofikcmjpecmoaa
