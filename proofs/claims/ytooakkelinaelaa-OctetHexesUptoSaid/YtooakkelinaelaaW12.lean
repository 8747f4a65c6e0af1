/- A CALL OF A Go FUNCTION that leaves the world as it is, as one step of a region that draws; pyxisref01.sign and Hex. -/
import Derived.Test.YtooakkelinaelaaW11
namespace Go.Proofs.Ytooakkelinaelaa
open Go.RowKit
theorem step_call {P : Program} {ops : Array Oper} {o : Oper} {a : Act} {w : World} {K : Act → World → Prop} {Q : Exit → Act → World → Prop} {E : Prop}
    (hg : o.guard = none) (f : FuncId) (x : Operand) (t : TypeId) (hop : o.op = Op.call { callee := Callee.value (Operand.func f), args := #[x], argTypes := #[t] })
    (fn : Func) (hf : P.funcs[f]? = some fn) (hn : (fn.name == "runtime.NumGoroutine") = false) (hb : fn.body.isNone = false)
    (v0 : Value) (hx : a.eval x = v0) (v : Value) (hc : Calls P f #[v0] w fun e w' => e = .returned v ∧ w' = w) (hK : K (a.put o.dst v) w) :
    if Region.wanted o (yielded ops a.tmps) = true then Oper.wp P o a w K Q else E := by
  have hw : Region.wanted o (yielded ops a.tmps) = true := by simp [Region.wanted, hg]
  rw [if_pos hw]
  unfold Oper.wp
  have hfv : a.eval (Operand.func f) = Value.func (Fn.func f) #[] #[] := rfl
  have he : (execOp a.eval o).run P w = .ok (.enter f #[v0]) w := by
    have hn' : ¬ fn.name = "runtime.NumGoroutine" := by simpa using hn
    have hb' : ¬ fn.body = none := fun h => by rw [h] at hb; cases hb
    simp [execOp, hop, resolve, invoke, hx, hfv, Deferred.ofValue, callFunc, hf, hn', hb', Result.andThen]
  rw [he, Oper.upon_enter]
  refine hc.mono ?_
  rintro e w' ⟨rfl, rfl⟩
  exact hK
theorem sign_t (n : Nat) (h : n < 16) (w : World) :
    Calls Try.prog 28 #[.int .u8 (n : Nat)] w fun e w' => e = .returned (.int .u8 (((sg n).toNat : Nat) : Int)) ∧ w' = w := by
  by_cases h1 : n < 10
  · have t1 : ((sg n).toNat : Int) = 48 + (n : Int) := by
      have : (sg n).toNat = 48 + n := by rw [sg, if_pos h1, UInt8.toNat_ofNat']; omega
      rw [this]; omega
    rw [t1]
    clear t1
    go_enter Try.func28, Try.ntmps28
    go_wp2
    go_ret
    exact ⟨rfl, rfl⟩
  · have t1 : ((sg n).toNat : Int) = 97 + (n : Int) - 10 := by
      have : (sg n).toNat = 87 + n := by rw [sg, if_neg h1, UInt8.toNat_ofNat']; omega
      rw [this]; omega
    rw [t1]
    clear t1
    go_enter Try.func28, Try.ntmps28
    go_wp2
    go_ret
    exact ⟨rfl, rfl⟩
attribute [local go_sem] setCell_drewN alloc_drewN
set_option maxRecDepth 100000 in
set_option maxHeartbeats 1000000 in
theorem rhex_t (W : World) (s : ByteArray) (hs : s.size ≤ 70368744175616) :
    Calls Try.prog 23 #[.string s] W fun e w' => e = .returned (.string ⟨(hx s s.size).toArray⟩) ∧ Below W.heap.size W w' := by
  obtain ⟨i0, hi, hz0, hz1, hz2⟩ := info_parts info5
  have HI := Lib.hid hi; have HZ0 := Lib.hid hz0; have HZ1 := Lib.hid hz1; have HZ2 := Lib.hid hz2
  clear hi hz0 hz1 hz2
  go_enter Try.func23, Try.ntmps23
  go_wp2
  go_loopw [3, 4] (fun v i wr => ∃ k : Nat, k ≤ s.size ∧ i = .int .i64 k ∧ wr.ownsRow W.heap.size 5 1 v (2 * k) (u8l (hx s k)) ∧ Below W.heap.size W wr) (fun _ i _ => s.size - (intOf i).toNat)
  case atStart => exact ⟨0, by omega, rfl, World.ownsRow_nil _ _ _ _, Below.refl _ _⟩
  case round =>
    obtain ⟨k, hk, rfl, hown, hbl⟩ := hrel
    have HO := Lib.hid hown; have HB := Lib.hid hbl
    clear hown hbl
    by_cases hlt : k < s.size
    · have t1 : decide ((k : Int) < (s.size : Int)) = true := decide_eq_true (by omega)
      have hb := s[k].toNat_lt
      have H1 : Hid (u8l (hx s (k + 1)) = u8l (hx s k) ++ [.int .u8 (((sg (s[k].toNat / 16)).toNat : Nat) : Int), .int .u8 (((sg (s[k].toNat % 16)).toNat : Nat) : Int)]) := by
        rw [byteAt_get s k hlt]; show u8l (hx s k ++ _) = _; simp [u8l]
      obtain ⟨p, hp⟩ : ∃ p, p = s[k].toNat / 16 := ⟨_, rfl⟩
      obtain ⟨r, hr⟩ : ∃ r, r = s[k].toNat % 16 := ⟨_, rfl⟩
      have f1 : ((s[k].toNat : Nat) : Int) / 16 = (p : Int) := by omega
      have f2 : ((s[k].toNat : Nat) : Int).tmod 16 = (r : Int) := by rw [Int.tmod_eq_emod_of_nonneg (by omega)]; omega
      have f3 : p < 16 := by omega
      have f5 : IntKind.u8.wrap (p : Int) = (p : Int) := by rw [IntKind.wrap_u8]; omega
      have f4 : r < 16 := by omega
      rw [← hp, ← hr] at H1
      clear hp hr
      have HPQ : Hid (p < 16 ∧ r < 16) := ⟨f3, f4⟩
      go_wp2
      go_region_law ((first
        | (refine step_call rfl 28 (.tmp 15) 5 rfl Try.f28 Try.func28 (by kernel_rfl) (by kernel_rfl) (.int .u8 (p : Nat)) rfl _ (sign_t p HPQ.1 _) ?_)
        | (refine step_call rfl 28 (.tmp 20) 5 rfl Try.f28 Try.func28 (by kernel_rfl) (by kernel_rfl) (.int .u8 (r : Nat)) rfl _ (sign_t r HPQ.2 _) ?_)
        | (refine step_append_lies _ rfl (.tmp 11) (.tmp 22) 44 rfl W.heap.size 5 i0 (.int .u8 0) 1 1 Try.underlying44 HI.out HZ0.out HZ1.out HZ2.out rfl (by decide) u3 (2 * k) _ rfl ((HO.out.alloc _).drew) ⟨wr.heap.size, 0, none⟩ 2 2 [.int .u8 (((sg p).toNat : Nat) : Int), .int .u8 (((sg r).toNat : Nat) : Int)] rfl rfl (by exact cell_two_new _ _ _ _) (by simp [Value.oneCell']) (by decide) (by unfold maxLen; omega) (by omega) (by have := HB.out.size; simp; omega) _ rfl ?_; intro g cap w1 hown1 hgrow _ _; have HO1 := Lib.hid hown1; have HG := Lib.hid hgrow; clear hown1 hgrow)))
      all_goals
        go_wp2
        refine ⟨⟨k + 1, by omega, by go_num, ?_, ?_⟩, by simp [intOf]; omega⟩
        · rw [H1]; exact HO1.out
        · exact ((HB.out.alloc HB.out.size _).drew).grown HG.out (by have := HB.out.size; simp; omega) (fun r hr => (HO.out.lt r hr).1)
    · obtain rfl : k = s.size := by omega
      have t1 : decide ((s.size : Int) < (s.size : Int)) = false := decide_eq_false (by omega)
      have hconv := run_conv_own (P := Try.prog) 44 9 Try.underlying44 Try.underlying5 Try.underlying9 HO.out
      go_wp2
      go_ret
      exact ⟨rfl, HB.out⟩
end Go.Proofs.Ytooakkelinaelaa
