/- Ring: Only; and what a ring answers that is not there, or was made of nothing. -/
import Derived.Test.YtofikcmjpecmoaaW4
import Derived.BigQuiet
import Derived.RegionTactic
import Derived.RegionCalls
namespace Go.Proofs.Ytofikcmjpecmoaa
open Go.RowKit Go.ChangeMaps Go.Maps Go.WideMaps
theorem look_none (w : World) (s : ByteArray) (hl : s.size ≤ maxLen) : (Instr.lookup 52 (.map none) (.string s) false).run Try.prog w = .ok (.pointer none) w := by
  have hkey := keyOf_string_mk Try.underlying9 hl
  rcases klaw.find w hkey [] (fun e he => by cases he) with ⟨h1, _⟩ | ⟨j, e, _, h2, _⟩
  · simp [Instr.lookup, run_underlying Try.underlying52, klaw.check w _ hkey, h1, Result.andThen]
  · simp at h2
theorem ownsRow_cell {w : World} {e : TypeId} {v : Value} {n : Nat} {xs : List Value} (h : w.ownsRow 0 e 1 v n xs) (hn : 0 < n) :
    ∃ g cap, v = .slice (some ⟨g, 0, none⟩) n cap ∧ v.ownBlock = some g ∧ ∀ j u, xs[j]? = some u → w.cell? ⟨g, j, none⟩ = some u := by
  rcases h.2 with ⟨_, rfl⟩ | ⟨g, cap, cur, rfl, _, hg, _, _, _, ht⟩
  · omega
  · refine ⟨g, cap, rfl, rfl, fun j u hj => ?_⟩
    have := h.cells (g := g) rfl j u hj
    rcases Nat.eq_zero_or_pos j with rfl | hj0
    · simpa [Addr.add] using this
    · simpa [Addr.add, Nat.ne_of_gt hj0] using this
section
variable {w : World} {Z : Nat → Prop} {r m : Nat} {va : Value} {dn : Int} {vn : Value} {L : List E}
set_option maxRecDepth 100000 in
theorem only_one (e : E) (h : RingIn w Z r m va dn vn [e]) :
    Calls Try.prog 18 #[.pointer (some ⟨r, 0, none⟩)] w fun x w' => x = .returned (.tuple #[.string e.nm, .string e.key, .int .i64 0]) ∧ ∃ n, w' = (w.setCell ⟨e.p, 2, none⟩ (.int .i64 (bump e.t))).drewN n := by
  have c0 : w.cell? ⟨r, 0, none⟩ = some (.map (some m)) := cell_of h.hr rfl
  have c1 : w.cell? ⟨r, 1, none⟩ = some va := cell_of h.hr rfl
  obtain ⟨g, cap, rfl, _, hg⟩ := ownsRow_cell h.ha (by simp)
  have g0 : w.cell? ⟨g, 0, none⟩ = some (.pointer (some ⟨e.p, 0, none⟩)) := hg 0 _ rfl
  have c2 : w.cell? ⟨e.p, 2, none⟩ = some (.int .i64 e.t) := cell_of (h.hp e (by simp)) rfl
  have f2 : w.frozen? ⟨e.p, 2, none⟩ = false := frozen_of (h.hp e (by simp))
  have d0 : (w.setCell ⟨e.p, 2, none⟩ (.int .i64 (bump e.t))).cell? ⟨e.p, 0, none⟩ = some (.string e.nm) :=
    (World.cell?_setCell_other _ ⟨e.p, 2, none⟩ ⟨e.p, 0, none⟩ _ (by simp)).trans (cell_of (h.hp e (by simp)) rfl)
  have d1 : (w.setCell ⟨e.p, 2, none⟩ (.int .i64 (bump e.t))).cell? ⟨e.p, 1, none⟩ = some (.string e.key) :=
    (World.cell?_setCell_other _ ⟨e.p, 2, none⟩ ⟨e.p, 1, none⟩ _ (by simp)).trans (cell_of (h.hp e (by simp)) rfl)
  have q1 := eqlSome m
  clear h hg
  go_enter Try.func18, Try.ntmps18
  go_wp2_with (go_at_call 25; refine (add_t _ _ _ c2 f2).mono ?_; rintro e1 w1 ⟨rfl, rfl⟩)
  go_quiet (fail)
  go_wp2
  go_ret3
  exact ⟨rfl, _, rfl⟩
set_option maxRecDepth 100000 in
theorem only_other (h : RingIn w Z r m va dn vn L) (hl : L.length ≠ 1) :
    Calls Try.prog 18 #[.pointer (some ⟨r, 0, none⟩)] w fun x w' => x = .returned (.tuple #[.string ⟨#[]⟩, .string ⟨#[]⟩, .int .i64 12]) ∧ w' = w := by
  have c0 : w.cell? ⟨r, 0, none⟩ = some (.map (some m)) := cell_of h.hr rfl
  have c1 : w.cell? ⟨r, 1, none⟩ = some va := cell_of h.hr rfl
  have q1 := eqlSome m
  have hva : ∃ a cap, va = .slice a L.length cap := by
    rcases h.ha.2 with ⟨rfl, h0⟩ | ⟨g, cap, cur, rfl, _⟩
    · exact ⟨none, 0, by rw [h0]⟩
    · exact ⟨_, _, rfl⟩
  obtain ⟨a, cap, rfl⟩ := hva
  have t1 : (L.length : Int) ≠ 1 := by omega
  have HH := Lib.hid hl
  clear h hl
  go_enter Try.func18, Try.ntmps18
  go_wp2
  go_ret3
  exact ⟨rfl, rfl⟩
end
/-- no ring at all -/
theorem find_nil (s : ByteArray) (w : World) : Calls Try.prog 14 #[.pointer none, .string s] w fun x w' => x = .returned (.tuple #[.string ⟨#[]⟩, .int .i64 1]) ∧ w' = w := by
  go_enter Try.func14, Try.ntmps14
  go_wp2
  go_ret2
  exact ⟨rfl, rfl⟩
theorem has_nil (s : ByteArray) (w : World) : Calls Try.prog 16 #[.pointer none, .string s] w fun x w' => x = .returned (.bool false) ∧ w' = w := by
  go_enter Try.func16, Try.ntmps16
  go_wp2
  go_ret
  exact ⟨rfl, rfl⟩
theorem only_nil (w : World) : Calls Try.prog 18 #[.pointer none] w fun x w' => x = .returned (.tuple #[.string ⟨#[]⟩, .string ⟨#[]⟩, .int .i64 1]) ∧ w' = w := by
  go_enter Try.func18, Try.ntmps18
  go_wp2
  go_ret3
  exact ⟨rfl, rfl⟩
theorem names_nil (w : World) : Calls Try.prog 12 #[.pointer none] w fun x w' => x = .returned (.slice none 0 0) ∧ w' = w := by
  go_enter Try.func12, Try.ntmps12
  go_wp2
  go_ret
  exact ⟨rfl, rfl⟩
theorem uses_nil (s : ByteArray) (w : World) : Calls Try.prog 20 #[.pointer none, .string s] w fun x w' => x = .returned (.int .i64 0) ∧ w' = w := by
  go_enter Try.func20, Try.ntmps20
  go_wp2
  go_ret
  exact ⟨rfl, rfl⟩
/-- a ring made of nothing -/
theorem find_zero (r : Nat) (s : ByteArray) (w : World) (c0 : w.cell? ⟨r, 0, none⟩ = some (.map none)) : Calls Try.prog 14 #[.pointer (some ⟨r, 0, none⟩), .string s] w fun x w' => x = .returned (.tuple #[.string ⟨#[]⟩, .int .i64 1]) ∧ w' = w := by
  have q1 := eqlNil
  go_enter Try.func14, Try.ntmps14
  go_wp2
  go_ret2
  exact ⟨rfl, rfl⟩
theorem has_zero (r : Nat) (s : ByteArray) (hs : s.size ≤ maxLen) (w : World) (c0 : w.cell? ⟨r, 0, none⟩ = some (.map none)) : Calls Try.prog 16 #[.pointer (some ⟨r, 0, none⟩), .string s] w fun x w' => x = .returned (.bool false) ∧ w' = w := by
  have q1 := eqlNil
  have q2 := look_none w s hs
  go_enter Try.func16, Try.ntmps16
  go_wp2
  go_ret
  exact ⟨rfl, rfl⟩
theorem only_zero (r : Nat) (w : World) (c0 : w.cell? ⟨r, 0, none⟩ = some (.map none)) : Calls Try.prog 18 #[.pointer (some ⟨r, 0, none⟩)] w fun x w' => x = .returned (.tuple #[.string ⟨#[]⟩, .string ⟨#[]⟩, .int .i64 1]) ∧ w' = w := by
  have q1 := eqlNil
  go_enter Try.func18, Try.ntmps18
  go_wp2
  go_ret3
  exact ⟨rfl, rfl⟩
theorem names_zero (r : Nat) (w : World) (c0 : w.cell? ⟨r, 0, none⟩ = some (.map none)) : Calls Try.prog 12 #[.pointer (some ⟨r, 0, none⟩)] w fun x w' => x = .returned (.slice none 0 0) ∧ w' = w := by
  have q1 := eqlNil
  go_enter Try.func12, Try.ntmps12
  go_wp2
  go_ret
  exact ⟨rfl, rfl⟩
theorem uses_zero (r : Nat) (s : ByteArray) (hs : s.size ≤ maxLen) (w : World) (c0 : w.cell? ⟨r, 0, none⟩ = some (.map none)) : Calls Try.prog 20 #[.pointer (some ⟨r, 0, none⟩), .string s] w fun x w' => x = .returned (.int .i64 0) ∧ w' = w := by
  have q1 := eqlNil
  have q2 := look_none w s hs
  go_enter Try.func20, Try.ntmps20
  go_wp2
  go_ret
  exact ⟨rfl, rfl⟩
end Go.Proofs.Ytofikcmjpecmoaa
