/- (*sync.Once).Do at this dump: first and done. -/
import Derived.Test.YtofikcmjpecmoaaW2
namespace Go.Proofs.Ytofikcmjpecmoaa
set_option maxRecDepth 100000 in
set_option maxHeartbeats 1600000 in
theorem do_first (b off : Nat) (r : Value) (w : World) (Q : World → Prop)
    (h0 : w.cell? ⟨b, off, none⟩ = some (.int .u32 0)) (h1 : w.cell? ⟨b, off + 1, none⟩ = some (.int .i32 0))
    (f1 : w.frozen? ⟨b, off + 1, none⟩ = false)
    (hcall : Calls Try.prog 23 #[r] (w.setCell ⟨b, off + 1, none⟩ (.int .i32 1)) fun e w' => e = .returned (.tuple #[]) ∧ Q w')
    (hQ : ∀ w', Q w' → w'.cell? ⟨b, off, none⟩ = some (.int .u32 0) ∧ w'.cell? ⟨b, off + 1, none⟩ = some (.int .i32 1) ∧ w'.frozen? ⟨b, off, none⟩ = false ∧ w'.frozen? ⟨b, off + 1, none⟩ = false) :
    Calls Try.prog 22 #[.pointer (some ⟨b, off, none⟩), .func (.func 23) #[r] #[]] w fun e w' => e = .returned (.tuple #[]) ∧
      ∃ w1, Q w1 ∧ w' = (w1.drew.setCell ⟨b, off, none⟩ (.int .u32 1)).setCell ⟨b, off + 1, none⟩ (.int .i32 0) := by
  have hl := run_call_load (P := Try.prog) Try.func32 (by kernel_rfl) (by kernel_rfl) (by kernel_rfl) .u32 (by kernel_rfl) (w := w) (a := ⟨b, off, none⟩) (x := 0) h0
  have hnot : ∀ (x : Bool) (w : World), (Op.unary .not (.bool x)).run Try.prog w = .ok (.bool (!x)) w := fun _ _ => rfl
  go_enter Try.func22, Try.ntmps22
  go_wp2_with (first | (go_at_call 27; go_in) | (go_at_call 28; refine (slow_t b off r w Q h0 h1 f1 hcall hQ).mono ?_; rintro e w1 ⟨rfl, hq⟩))
  go_end0
  exact ⟨rfl, hq⟩
theorem do_done (b off : Nat) (f : Value) (w : World) (h0 : w.cell? ⟨b, off, none⟩ = some (.int .u32 1)) :
    Calls Try.prog 22 #[.pointer (some ⟨b, off, none⟩), f] w fun e w' => e = .returned (.tuple #[]) ∧ w' = w := by
  have hl := run_call_load (P := Try.prog) Try.func32 (by kernel_rfl) (by kernel_rfl) (by kernel_rfl) .u32 (by kernel_rfl) (w := w) (a := ⟨b, off, none⟩) (x := 1) h0
  have hnot : ∀ (x : Bool) (w : World), (Op.unary .not (.bool x)).run Try.prog w = .ok (.bool (!x)) w := fun _ _ => rfl
  go_enter Try.func22, Try.ntmps22
  go_wp2_with (go_at_call 27; go_in)
  go_end0
  exact ⟨rfl, rfl⟩
end Go.Proofs.Ytofikcmjpecmoaa
