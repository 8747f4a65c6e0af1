/- RingAnswers returns true: the walk. -/
import Derived.Test.YtofikcmjpecmoaaA3
import Derived.Deep.QuietTactic
namespace Go.Proofs.Ytofikcmjpecmoaa
open Go.RowKit Go.ChangeMaps Go.Maps Go.WideMaps
theorem upd_bound {T : Nat → Int} {k : Nat} (i : Nat) (h : ∀ i, 0 ≤ T i ∧ T i ≤ (k : Int)) (hk : k ≤ 999) : ∀ j, 0 ≤ upd T i j ∧ upd T i j ≤ ((k + 1 : Nat) : Int) := by
  intro j
  have := h j
  unfold upd
  split
  · rw [bump_of this.1 (by omega)]; omega
  · omega
theorem up_bound {T : Nat → Int} {k : Nat} (h : ∀ i, 0 ≤ T i ∧ T i ≤ (k : Int)) : ∀ j, 0 ≤ T j ∧ T j ≤ ((k + 1 : Nat) : Int) := fun j => by
  have := h j
  omega
set_option maxRecDepth 100000 in
set_option maxHeartbeats 8000000 in
theorem answers_t (w : World) (v v2 : Value) (l : List KV) (qs : List (Int × ByteArray)) (h : Lies w v l) (hbig : l.length * 32 ≤ 140737488355328) (hq : LiesQ w v2 qs) (hz : ∀ e ∈ qs, e.2.size ≤ maxLen) :
    Calls Try.prog 5 #[v, v2] w fun y w' => y = .returned (.bool true) ∧ Below w.heap.size w w' := by
  have HL := Lib.hid h
  have HQ := Lib.hid hq
  have HZ := Lib.hid hz
  have HBIG := Lib.hid hbig
  obtain ⟨a2, c2, rfl, hc2⟩ := hq
  obtain ⟨m, hm⟩ : ∃ m, m = qs.length := ⟨_, rfl⟩
  rw [← hm] at HQ ⊢
  have HM := Lib.hid hm
  have HW := Lib.hid (step_wakes (Below.refl w.heap.size w))
  clear hm hc2 hz hbig
  by_cases h0 : newCode l = 0
  · have H0 := Lib.hid h0
    clear h h0
    by_cases h300 : (300 : Int) < (m : Int)
    · go_enter Try.func5, Try.ntmps5
      go_wp2_with (go_at_call 10; refine HW.out.mono ?_; rintro e0 w1 ⟨rfl, H1⟩)
      go_wp2_with (go_at_call 8; refine (step_copied w1 v l (HL.out.grow (Nat.le_refl _) H1.out) HBIG.out).mono ?_; rintro e1 w2 ⟨v1, rfl, H2⟩)
      go_wp2_with (go_at_call 7; refine (step_new H0.out (Lies.own H2.out.1)).mono ?_; rintro e2 w3 ⟨r, rfl, H3⟩)
      go_wp2_with (go_at_call 9; refine (step_rnew (w := w) (w1 := w2) H0.out HL.out (H1.out.trans ((H2.out.2.mono H1.out.size).trans (H3.out.2.mono (Nat.le_trans H1.out.size H2.out.2.size)))) (Nat.le_trans H1.out.size H2.out.2.size) H3.out.1).mono ?_; rintro e3 w4 ⟨x, rfl, H4⟩)
      go_ret
      exact ⟨rfl, H4.out.1.below⟩
    · have h300' : (m : Int) ≤ 300 := by omega
      clear h300
      go_enter Try.func5, Try.ntmps5
      go_wp2_with (go_at_call 10; refine HW.out.mono ?_; rintro e0 w1 ⟨rfl, H1⟩)
      go_wp2_with (go_at_call 8; refine (step_copied w1 v l (HL.out.grow (Nat.le_refl _) H1.out) HBIG.out).mono ?_; rintro e1 w2 ⟨v1, rfl, H2⟩)
      go_wp2_with (go_at_call 7; refine (step_new H0.out (Lies.own H2.out.1)).mono ?_; rintro e2 w3 ⟨r, rfl, H3⟩)
      go_wp2_with (go_at_call 9; refine (step_rnew (w := w) (w1 := w2) H0.out HL.out (H1.out.trans ((H2.out.2.mono H1.out.size).trans (H3.out.2.mono (Nat.le_trans H1.out.size H2.out.2.size)))) (Nat.le_trans H1.out.size H2.out.2.size) H3.out.1).mono ?_; rintro e3 w4 ⟨x, rfl, H4⟩)
      go_loopw [50] (fun v50 wr => ∃ (k : Nat) (T : Nat → Int), v50 = .int .i64 (k : Nat) ∧ k ≤ m ∧ Both w wr r x l T T ∧ (∀ i, 0 ≤ T i ∧ T i ≤ (k : Int))) (fun v50 _ => m - (intOf v50).toNat)
      case atStart => exact ⟨0, _, rfl, Nat.zero_le _, H4.out.1, fun i => ⟨Int.le_refl _, Int.le_refl _⟩⟩
      case round =>
        clear H1 H2 H3 H4
        obtain ⟨k, T, rfl, hk, hboth, hT⟩ := hrel
        have HBO := Lib.hid hboth
        have HTT := Lib.hid hT
        clear hboth hT
        by_cases hlt : k < m
        · have t1 : decide ((k : Int) < (m : Int)) = true := decide_eq_true (by omega)
          have hkq : k < qs.length := by rw [← HM.out]; exact hlt
          obtain ⟨a3, c3, e3, hc3⟩ := HQ.out.grow (Nat.le_refl _) HBO.out.below
          obtain ⟨b, off, e4, hb, d0, d1⟩ := hc3 k hkq
          obtain ⟨rfl, hmq, rfl⟩ : a2 = a3 ∧ m = qs.length ∧ c2 = c3 := by simpa using e3
          subst e4
          obtain ⟨K, hK⟩ : ∃ K, K = qs[k].1 := ⟨_, rfl⟩
          obtain ⟨s, hs⟩ : ∃ s, s = qs[k].2 := ⟨_, rfl⟩
          have HS := Lib.hid (show s.size ≤ maxLen by rw [hs]; exact HZ.out _ (List.getElem_mem hkq))
          rw [← hK] at d0
          rw [← hs] at d1
          have HB1 := Lib.hid (HBO.out.guard (.cells #[.int .i64 K, .string s] 42))
          have HTB := Lib.hid (show ∀ i, IntKind.i64.wrap (T i) = T i from fun i => wrap_of (HTT.out i).1 (by have := (HTT.out i).2; omega))
          clear e3 hc3 hb hkq hK hs hmq
          have HBD := Lib.hid (fun d => HB1.out.grow (Below.drewN (Below.refl _ _) d))
          by_cases q0 : K = 0
          · subst q0
            cases hf : fnd l s with
            | some i =>
              have hi := (fnd_some hf).1
              have A1 := Lib.hid (ask_find s HB1.out HS.out hi hf)
              have A2 := Lib.hid (fun (w5 : World) (hb5 : BothO w w5 r x l (upd T i) T wr.heap.size (.cells #[.int .i64 0, .string s] 42)) => ask_rfind s hb5 hi hf)
              obtain ⟨ky, hky⟩ : ∃ ky, ky = l[i].2 := ⟨_, rfl⟩
              rw [← hky] at A1 A2
              clear hf hky hi
              go_wp2_with (go_at_call 14; refine A1.out.mono ?_; rintro e5 w5 ⟨rfl, H5⟩; have c5 := cell_of (j := 1) H5.out.held rfl)
              refine (A2.out _ H5.out).mono ?_
              rintro e6 w6 ⟨rfl, H6⟩
              go_wp2
              exact ⟨⟨k + 1, upd T i, by simp, by omega, H6.out.both, upd_bound i HTT.out (by omega)⟩, by simp [intOf]; omega⟩
            | none =>
              have A1 := Lib.hid (ask_find0 s HB1.out HS.out hf)
              have A2 := Lib.hid (fun (w5 : World) (hb5 : BothO w w5 r x l T T wr.heap.size (.cells #[.int .i64 0, .string s] 42)) => ask_rfind0 s hb5 hf)
              clear hf
              go_wp2_with (go_at_call 14; refine A1.out.mono ?_; rintro e5 w5 ⟨rfl, H5⟩; have c5 := cell_of (j := 1) H5.out.held rfl)
              refine (A2.out _ H5.out).mono ?_
              rintro e6 w6 ⟨rfl, H6⟩
              go_wp2
              exact ⟨⟨k + 1, T, by simp, by omega, H6.out.both, up_bound HTT.out⟩, by simp [intOf]; omega⟩
          have q0b : (K == 0) = false := beq_false_of_ne q0
          by_cases q1 : K = 1
          · subst q1
            obtain ⟨o, ho⟩ : ∃ o, o = fnd l s := ⟨_, rfl⟩
            have A1 := Lib.hid (fun d => ask_has s (HBD.out d) HS.out)
            have A2 := Lib.hid (fun d => ask_at s (HBD.out d))
            rw [← ho] at A1 A2
            have hpl := plc_ge o
            obtain ⟨ob, hob⟩ : ∃ ob, ob = o.isSome := ⟨_, rfl⟩
            obtain ⟨op, hop⟩ : ∃ op, op = plc o := ⟨_, rfl⟩
            rw [← hob] at A1 hpl
            rw [← hop] at A2 hpl
            clear ho hob hop
            go_wp2
            go_quiet (first | (go_at_call 16; exact Calls.quiet_of_same (A1.out _)) | (go_at_call 17; exact Calls.quiet_of_same (A2.out _)))
            go_wp2
            exact ⟨⟨k + 1, T, by simp, by omega, (HBD.out _).both, up_bound HTT.out⟩, by simp [intOf]; omega⟩
          have q1b : (K == 1) = false := beq_false_of_ne q1
          by_cases q2 : K = 2
          · subst q2
            by_cases hl1 : l.length = 1
            · obtain ⟨e, rfl⟩ := List.length_eq_one_iff.1 hl1
              clear hl1
              go_wp2_with (go_at_call 18; refine (ask_only HB1.out).mono ?_; rintro e5 w5 ⟨rfl, H5⟩)
              refine (ask_ronly H5.out).mono ?_
              rintro e6 w6 ⟨rfl, H6⟩
              go_wp2
              exact ⟨⟨k + 1, upd T 0, by simp, by omega, H6.out.both, upd_bound 0 HTT.out (by omega)⟩, by simp [intOf]; omega⟩
            · have HL1 := Lib.hid hl1
              clear hl1
              go_wp2_with (go_at_call 18; refine (ask_only0 HB1.out HL1.out).mono ?_; rintro e5 w5 ⟨rfl, H5⟩)
              refine (ask_ronly0 H5.out HL1.out).mono ?_
              rintro e6 w6 ⟨rfl, H6⟩
              go_wp2
              exact ⟨⟨k + 1, T, by simp, by omega, H6.out.both, up_bound HTT.out⟩, by simp [intOf]; omega⟩
          have q2b : (K == 2) = false := beq_false_of_ne q2
          by_cases q3 : K = 3
          · subst q3
            go_wp2_with (first | (go_at_call 12; refine (both_names HB1.out.both).mono ?_; rintro e5 w5 ⟨v5, rfl, H5⟩) | (go_at_call 13; refine (both_rnames H5.out.1 H5.out.2).mono ?_; rintro e6 w6 ⟨v6, rfl, H6⟩))
            refine (both_same H6.out.1 H6.out.2.1 H6.out.2.2).mono ?_
            rintro e7 w7 ⟨rfl, H7⟩
            go_wp2
            exact ⟨⟨k + 1, T, by simp, by omega, H7.out, up_bound HTT.out⟩, by simp [intOf]; omega⟩
          have q3b : (K == 3) = false := beq_false_of_ne q3
          have A1 := Lib.hid (fun d => ask_uses s (HBD.out d) HS.out HTB.out)
          have A2 := Lib.hid (fun d => ask_ruses s (HBD.out d))
          obtain ⟨t, ht⟩ : ∃ t, t = told1 l s T := ⟨_, rfl⟩
          rw [← ht] at A1 A2
          clear ht
          go_wp2
          go_quiet (first | (go_at_call 20; exact Calls.quiet_of_same (A1.out _)) | (go_at_call 21; exact Calls.quiet_of_same (A2.out _)))
          go_wp2
          exact ⟨⟨k + 1, T, by simp, by omega, (HBD.out _).both, up_bound HTT.out⟩, by simp [intOf]; omega⟩
        · obtain rfl : k = m := by omega
          have t1 : decide ((k : Int) < (k : Int)) = false := decide_eq_false (by omega)
          go_wp2
          go_ret
          exact ⟨rfl, HBO.out.below⟩
  · have S2 : ∃ c : Int, c ≠ 0 ∧ (∀ w1 v1, Lies w1 v1 l → Below w.heap.size w w1 → Calls Try.prog 7 #[v1] w1 fun y w' => y = .returned (.tuple #[.pointer none, .int .i64 c]) ∧ Hid (Below w.heap.size w w')) ∧
        ∀ w2, Below w.heap.size w w2 → Calls Try.prog 9 #[v] w2 fun y w' => y = .returned (.tuple #[.pointer none, .int .i64 c]) ∧ Hid (Below w.heap.size w w') :=
      ⟨(newCode l : Nat), by omega, fun w1 v1 k1 k2 => step_new_bad h0 k1 k2, fun w2 k => step_rnew_bad h0 h k⟩
    obtain ⟨c, t1, S3, S4⟩ := S2
    have t2 : (c != 0) = true := by simpa using t1
    have HS3 := Lib.hid S3
    have HS4 := Lib.hid S4
    clear h h0 S3 S4
    go_enter Try.func5, Try.ntmps5
    go_wp2_with (go_at_call 10; refine HW.out.mono ?_; rintro e0 w1 ⟨rfl, H1⟩)
    go_wp2_with (go_at_call 8; refine (step_copied w1 v l (HL.out.grow (Nat.le_refl _) H1.out) HBIG.out).mono ?_; rintro e1 w2 ⟨v1, rfl, H2⟩)
    go_wp2_with (go_at_call 7; refine (HS3.out _ _ (Lies.own H2.out.1) (H1.out.trans (H2.out.2.mono H1.out.size))).mono ?_; rintro e2 w3 ⟨rfl, H3⟩)
    go_wp2_with (go_at_call 9; refine (HS4.out _ H3.out).mono ?_; rintro e3 w4 ⟨rfl, H4⟩)
    go_ret
    exact ⟨rfl, H4.out⟩
end Go.Proofs.Ytofikcmjpecmoaa
