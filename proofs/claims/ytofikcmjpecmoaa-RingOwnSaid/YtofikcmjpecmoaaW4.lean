/- Ring: Find, Has, Uses, over this dump. -/
import Derived.Test.YtofikcmjpecmoaaR2
import Derived.WalkLawsBesides
import Derived.WalkSpells
import Derived.Laws.LoneSync
namespace Go.Proofs.Ytofikcmjpecmoaa
open Go.RowKit Go.ChangeMaps Go.Maps Go.WideMaps
theorem add_t (a : Addr) (t : Int) (w : World) (hc : w.cell? a = some (.int .i64 t)) (hz : w.frozen? a = false) :
    Calls Try.prog 25 #[.pointer (some a), .int .i64 1] w fun e w' => e = .returned (.int .i64 (bump t)) ∧ w' = w.setCell a (.int .i64 (bump t)) := by
  have hadd := run_call_add (P := Try.prog) Try.func30 (by kernel_rfl) (by kernel_rfl) (by kernel_rfl) .i64 (by kernel_rfl) (y := 1) (s := bump t) hc hz (by simp [go_sem]; rfl)
  go_enter Try.func25, Try.ntmps25
  go_wp2
  go_ret
  exact ⟨rfl, rfl⟩
theorem load_t (a : Addr) (t : Int) (w : World) (hc : w.cell? a = some (.int .i64 t)) :
    Calls Try.prog 26 #[.pointer (some a)] w fun e w' => e = .returned (.int .i64 t) ∧ w' = w := by
  have hl := run_call_load (P := Try.prog) Try.func31 (by kernel_rfl) (by kernel_rfl) (by kernel_rfl) .i64 (by kernel_rfl) hc
  go_enter Try.func26, Try.ntmps26
  go_wp2
  go_ret
  exact ⟨rfl, rfl⟩
theorem eqlSome (m : Nat) (w : World) : (binOp .eql 52 (.map (some m)) (.map none)).run Try.prog w = .ok (.bool false) w := by kernel_rfl
theorem eqlNil (w : World) : (binOp .eql 52 (.map none) (.map none)).run Try.prog w = .ok (.bool true) w := by kernel_rfl
section
variable {w : World} {Z : Nat → Prop} {r m : Nat} {va : Value} {dn : Int} {vn : Value} {L : List E}
set_option maxRecDepth 100000 in
theorem find_hit (h : RingIn w Z r m va dn vn L) (s : ByteArray) (hs : s.size ≤ maxLen) (e : E) (he : e ∈ L) (hes : e.nm = s) :
    Calls Try.prog 14 #[.pointer (some ⟨r, 0, none⟩), .string s] w fun x w' => x = .returned (.tuple #[.string e.key, .int .i64 0]) ∧ w' = w.setCell ⟨e.p, 2, none⟩ (.int .i64 (bump e.t)) := by
  have c0 : w.cell? ⟨r, 0, none⟩ = some (.map (some m)) := cell_of h.hr rfl
  have hlook : (Instr.lookup 52 (.map (some m)) (.string s) false).run Try.prog w = .ok (.pointer (some ⟨e.p, 0, none⟩)) w := by
    rcases look_t w m L s h.hm (fun x hx => by have := h.sz x hx; unfold maxLen; omega) hs with ⟨e1, he1, hs1, hr1⟩ | ⟨hno, _⟩
    · obtain rfl : e1 = e := mem_inj E.nm h.nd he1 he (hs1.trans hes.symm)
      exact hr1
    · exact absurd hes (hno e he)
  have c2 : w.cell? ⟨e.p, 2, none⟩ = some (.int .i64 e.t) := cell_of (h.hp e he) rfl
  have f2 : w.frozen? ⟨e.p, 2, none⟩ = false := frozen_of (h.hp e he)
  have c1 : (w.setCell ⟨e.p, 2, none⟩ (.int .i64 (bump e.t))).cell? ⟨e.p, 1, none⟩ = some (.string e.key) :=
    (World.cell?_setCell_other _ ⟨e.p, 2, none⟩ ⟨e.p, 1, none⟩ _ (by simp)).trans (cell_of (h.hp e he) rfl)
  have q1 := eqlSome m
  have HH := Lib.hid (And.intro he hes)
  clear he hes h
  go_enter Try.func14, Try.ntmps14
  go_wp2_with (go_at_call 25; refine (add_t _ _ _ c2 f2).mono ?_; rintro e1 w1 ⟨rfl, rfl⟩)
  go_ret2
  exact ⟨rfl, rfl⟩
set_option maxRecDepth 100000 in
theorem find_miss (h : RingIn w Z r m va dn vn L) (s : ByteArray) (hs : s.size ≤ maxLen) (hno : ∀ e ∈ L, e.nm ≠ s) :
    Calls Try.prog 14 #[.pointer (some ⟨r, 0, none⟩), .string s] w fun x w' => x = .returned (.tuple #[.string ⟨#[]⟩, .int .i64 12]) ∧ w' = w := by
  have c0 : w.cell? ⟨r, 0, none⟩ = some (.map (some m)) := cell_of h.hr rfl
  have hlook : (Instr.lookup 52 (.map (some m)) (.string s) false).run Try.prog w = .ok (.pointer none) w := by
    rcases look_t w m L s h.hm (fun x hx => by have := h.sz x hx; unfold maxLen; omega) hs with ⟨e1, he1, hs1, hr1⟩ | ⟨_, hr1⟩
    · exact absurd hs1 (hno e1 he1)
    · exact hr1
  have q1 := eqlSome m
  clear h hno
  go_enter Try.func14, Try.ntmps14
  go_wp2
  go_ret2
  exact ⟨rfl, rfl⟩
set_option maxRecDepth 100000 in
theorem has_hit (h : RingIn w Z r m va dn vn L) (s : ByteArray) (hs : s.size ≤ maxLen) (e : E) (he : e ∈ L) (hes : e.nm = s) :
    Calls Try.prog 16 #[.pointer (some ⟨r, 0, none⟩), .string s] w fun x w' => x = .returned (.bool true) ∧ w' = w := by
  have c0 : w.cell? ⟨r, 0, none⟩ = some (.map (some m)) := cell_of h.hr rfl
  have hlook : (Instr.lookup 52 (.map (some m)) (.string s) false).run Try.prog w = .ok (.pointer (some ⟨e.p, 0, none⟩)) w := by
    rcases look_t w m L s h.hm (fun x hx => by have := h.sz x hx; unfold maxLen; omega) hs with ⟨e1, he1, hs1, hr1⟩ | ⟨hno, _⟩
    · obtain rfl : e1 = e := mem_inj E.nm h.nd he1 he (hs1.trans hes.symm)
      exact hr1
    · exact absurd hes (hno e he)
  have HH := Lib.hid (And.intro he hes)
  clear he hes h
  go_enter Try.func16, Try.ntmps16
  go_wp2
  go_ret
  exact ⟨rfl, rfl⟩
set_option maxRecDepth 100000 in
theorem has_miss (h : RingIn w Z r m va dn vn L) (s : ByteArray) (hs : s.size ≤ maxLen) (hno : ∀ e ∈ L, e.nm ≠ s) :
    Calls Try.prog 16 #[.pointer (some ⟨r, 0, none⟩), .string s] w fun x w' => x = .returned (.bool false) ∧ w' = w := by
  have c0 : w.cell? ⟨r, 0, none⟩ = some (.map (some m)) := cell_of h.hr rfl
  have hlook : (Instr.lookup 52 (.map (some m)) (.string s) false).run Try.prog w = .ok (.pointer none) w := by
    rcases look_t w m L s h.hm (fun x hx => by have := h.sz x hx; unfold maxLen; omega) hs with ⟨e1, he1, hs1, hr1⟩ | ⟨_, hr1⟩
    · exact absurd hs1 (hno e1 he1)
    · exact hr1
  clear h hno
  go_enter Try.func16, Try.ntmps16
  go_wp2
  go_ret
  exact ⟨rfl, rfl⟩
set_option maxRecDepth 100000 in
theorem uses_hit (h : RingIn w Z r m va dn vn L) (s : ByteArray) (hs : s.size ≤ maxLen) (e : E) (he : e ∈ L) (hes : e.nm = s) (ht : IntKind.i64.wrap e.t = e.t) :
    Calls Try.prog 20 #[.pointer (some ⟨r, 0, none⟩), .string s] w fun x w' => x = .returned (.int .i64 e.t) ∧ w' = w := by
  have c0 : w.cell? ⟨r, 0, none⟩ = some (.map (some m)) := cell_of h.hr rfl
  have hlook : (Instr.lookup 52 (.map (some m)) (.string s) false).run Try.prog w = .ok (.pointer (some ⟨e.p, 0, none⟩)) w := by
    rcases look_t w m L s h.hm (fun x hx => by have := h.sz x hx; unfold maxLen; omega) hs with ⟨e1, he1, hs1, hr1⟩ | ⟨hno, _⟩
    · obtain rfl : e1 = e := mem_inj E.nm h.nd he1 he (hs1.trans hes.symm)
      exact hr1
    · exact absurd hes (hno e he)
  have c2 : w.cell? ⟨e.p, 2, none⟩ = some (.int .i64 e.t) := cell_of (h.hp e he) rfl
  have HH := Lib.hid (And.intro he hes)
  clear he hes h
  go_enter Try.func20, Try.ntmps20
  go_wp2_with (go_at_call 26; refine (load_t _ _ _ c2).mono ?_; rintro e1 w1 ⟨rfl, rfl⟩)
  go_ret
  exact ⟨rfl, rfl⟩
set_option maxRecDepth 100000 in
theorem uses_miss (h : RingIn w Z r m va dn vn L) (s : ByteArray) (hs : s.size ≤ maxLen) (hno : ∀ e ∈ L, e.nm ≠ s) :
    Calls Try.prog 20 #[.pointer (some ⟨r, 0, none⟩), .string s] w fun x w' => x = .returned (.int .i64 0) ∧ w' = w := by
  have c0 : w.cell? ⟨r, 0, none⟩ = some (.map (some m)) := cell_of h.hr rfl
  have hlook : (Instr.lookup 52 (.map (some m)) (.string s) false).run Try.prog w = .ok (.pointer none) w := by
    rcases look_t w m L s h.hm (fun x hx => by have := h.sz x hx; unfold maxLen; omega) hs with ⟨e1, he1, hs1, hr1⟩ | ⟨_, hr1⟩
    · exact absurd hs1 (hno e1 he1)
    · exact hr1
  clear h hno
  go_enter Try.func20, Try.ntmps20
  go_wp2
  go_ret
  exact ⟨rfl, rfl⟩
end
end Go.Proofs.Ytofikcmjpecmoaa
