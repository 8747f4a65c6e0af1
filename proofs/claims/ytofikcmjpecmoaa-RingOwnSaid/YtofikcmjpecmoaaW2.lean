/- (*sync.Once).doSlow and Do at this dump, the function by its contract. -/
import Derived.Test.YtofikcmjpecmoaaW1
namespace Go.Proofs.Ytofikcmjpecmoaa
set_option maxRecDepth 100000 in
set_option maxHeartbeats 1600000 in
theorem slow_t (b off : Nat) (r : Value) (w : World) (Q : World → Prop)
    (h0 : w.cell? ⟨b, off, none⟩ = some (.int .u32 0)) (h1 : w.cell? ⟨b, off + 1, none⟩ = some (.int .i32 0))
    (f1 : w.frozen? ⟨b, off + 1, none⟩ = false)
    (hcall : Calls Try.prog 23 #[r] (w.setCell ⟨b, off + 1, none⟩ (.int .i32 1)) fun e w' => e = .returned (.tuple #[]) ∧ Q w')
    (hQ : ∀ w', Q w' → w'.cell? ⟨b, off, none⟩ = some (.int .u32 0) ∧ w'.cell? ⟨b, off + 1, none⟩ = some (.int .i32 1) ∧ w'.frozen? ⟨b, off, none⟩ = false ∧ w'.frozen? ⟨b, off + 1, none⟩ = false) :
    Calls Try.prog 28 #[.pointer (some ⟨b, off, none⟩), .func (.func 23) #[r] #[]] w fun e w' => e = .returned (.tuple #[]) ∧
      ∃ w1, Q w1 ∧ w' = (w1.drew.setCell ⟨b, off, none⟩ (.int .u32 1)).setCell ⟨b, off + 1, none⟩ (.int .i32 0) := by
  have hl := run_call_load (P := Try.prog) Try.func32 (by kernel_rfl) (by kernel_rfl) (by kernel_rfl) .u32 (by kernel_rfl) (w := w.setCell ⟨b, off + 1, none⟩ (.int .i32 1)) (a := ⟨b, off, none⟩) (x := 0) ((World.cell?_setCell_other _ ⟨b, off + 1, none⟩ ⟨b, off, none⟩ _ (by simp)).trans h0)
  have hnot : ∀ (x : Bool) (w : World), (Op.unary .not (.bool x)).run Try.prog w = .ok (.bool (!x)) w := fun _ _ => rfl
  go_enter_defers Try.func28, Try.ntmps28
  go_wp2_with (go_at_call 33; refine (lock_free ⟨b, off + 1, none⟩ _ (by go_simp) (by go_simp)).mono ?_; rintro e w' ⟨rfl, rfl⟩)
  go_wp2_with (first | (go_at_call 27; go_in) | (go_at_call 23; refine hcall.mono ?_; rintro e w1 ⟨rfl, hq⟩))
  obtain ⟨q0, q1, p0, p1⟩ := hQ _ hq
  refine leaves_cons (f := 35) (args := #[.pointer (some ⟨b, off, none⟩), .bool true]) (by simp) (by simp [go_sem]) ?_
  refine (store_deferred ⟨b, off, none⟩ (.int .u32 0) .returning _ q0 p0).mono ?_
  rintro e u' w'' ⟨rfl, rfl, rfl⟩
  refine leaves_cons (f := 34) (args := #[.pointer (some ⟨b, off + 1, none⟩)]) (by simp [settle]) (by simp [go_sem]) ?_
  refine (unlock_deferred ⟨b, off + 1, none⟩ _ _ ?_ (by simp [p1])).mono ?_
  · refine (World.cell?_setCell_other _ ⟨b, off, none⟩ ⟨b, off + 1, none⟩ _ (by simp)).trans ?_
    rw [World.cell?_drew]
    exact q1
  rintro e u' w'' ⟨rfl, rfl, rfl⟩
  simp [Leaves, settle, results, Try.results28]
  exact ⟨w1, hq, rfl⟩
end Go.Proofs.Ytofikcmjpecmoaa
