/- RingOwn returns true: the walk. -/
import Derived.Test.YtofikcmjpecmoaaA3
namespace Go.Proofs.Ytofikcmjpecmoaa
open Go.RowKit Go.ChangeMaps Go.Maps Go.WideMaps
/-- a ring, and the world since the start -/
def Kept (w0 w : World) (a : Nat) (r : Nat) (l : List KV) (T : Nat → Int) : Prop := RingAt w (fun k => a ≤ k) r l T ∧ Below w0.heap.size w0 w ∧ w0.heap.size ≤ a ∧ a ≤ w.heap.size
theorem kept_wakes {w0 w : World} {a r : Nat} {l : List KV} {T : Nat → Int} (h : Kept w0 w a r l T) : Calls Try.prog 10 #[] w fun y w' => y = .returned (.bool true) ∧ Hid (Kept w0 w' a r l T ∧ Below w.heap.size w w') := by
  refine (wakes_t w).mono ?_
  rintro y w' ⟨rfl, hb⟩
  exact ⟨rfl, ⟨h.1.shrink (Y := fun k => a ≤ k ∧ k < w.heap.size) (fun k hk hz => ⟨hz, hk⟩) |>.turn (Below.turn hb) (fun k _ hz hy => by omega) |>.shrink (fun k _ hz => hz.1), h.2.1.trans (hb.mono h.2.1.size), h.2.2.1, Nat.le_trans h.2.2.2 hb.size⟩, hb⟩
theorem own_bad (w : World) (v : Value) (l : List KV) (a : Option Addr) (n cap : Nat) (hv : v = .slice a n cap) (h : Lies w v l) (hbig : l.length * 32 ≤ 140737488355328) (h0 : newCode l ≠ 0) :
    Calls Try.prog 4 #[v] w fun y w' => y = .returned (.bool true) ∧ Below w.heap.size w w' := by
  have HC := Lib.hid (step_copied w v l h hbig)
  have S2 : ∃ c : Int, c ≠ 0 ∧ (∀ w1 v1, Lies w1 v1 l → Below w.heap.size w w1 → Calls Try.prog 7 #[v1] w1 fun y w' => y = .returned (.tuple #[.pointer none, .int .i64 c]) ∧ Hid (Below w.heap.size w w')) :=
    ⟨(newCode l : Nat), by omega, fun w1 v1 k1 k2 => step_new_bad h0 k1 k2⟩
  obtain ⟨c, t1, S3⟩ := S2
  have t2 : (c != 0) = true := by simpa using t1
  have HS3 := Lib.hid S3
  subst hv
  clear h h0 S3 hbig
  go_enter Try.func4, Try.ntmps4
  go_wp2_with (go_at_call 8; refine HC.out.mono ?_; rintro e1 w1 ⟨v1, rfl, H1⟩)
  go_wp2_with (go_at_call 7; refine (HS3.out _ _ (Lies.own H1.out.1) H1.out.2).mono ?_; rintro e2 w2 ⟨rfl, H2⟩)
  go_wp2_with (go_at_call 10; refine (step_wakes H2.out).mono ?_; rintro e3 w3 ⟨rfl, H3⟩)
  go_wp2_with (go_at_call 10; refine (step_wakes H3.out).mono ?_; rintro e4 w4 ⟨rfl, H4⟩)
  go_ret
  exact ⟨rfl, H4.out⟩
theorem kept_new {w w1 : World} {v1 : Value} {l : List KV} (h0 : newCode l = 0) (h : Lies w1 v1 l) (hb : Below w.heap.size w w1) :
    Calls Try.prog 7 #[v1] w1 fun y w' => ∃ r, y = .returned (.tuple #[.pointer (some ⟨r, 0, none⟩), .int .i64 0]) ∧ Hid (Kept w w' w1.heap.size r l (fun _ => 0) ∧ Below w1.heap.size w1 w') := by
  refine (at_new w1 v1 l h).mono ?_
  rintro y w' ⟨hb2, ⟨_, r, rfl, hr⟩ | ⟨h1, _⟩⟩
  · exact ⟨r, rfl, ⟨hr, hb.trans (hb2.mono hb.size), hb.size, hb2.size⟩, hb2⟩
  · exact absurd h0 h1
set_option maxRecDepth 100000 in
theorem own_nil (w : World) (a : Option Addr) (cap : Nat) : Calls Try.prog 4 #[.slice a 0 cap] w fun y w' => y = .returned (.bool true) ∧ Below w.heap.size w w' := by
  have hl : Lies w (.slice a 0 cap) [] := ⟨a, cap, rfl, fun i hi => by cases hi⟩
  have HC := Lib.hid (step_copied w (.slice a 0 cap) [] hl (by decide))
  clear hl
  go_enter Try.func4, Try.ntmps4
  go_wp2_with (go_at_call 8; refine HC.out.mono ?_; rintro e1 w1 ⟨v1, rfl, H1⟩)
  go_wp2_with (go_at_call 7; refine (kept_new (l := []) (by decide) (Lies.own H1.out.1) H1.out.2).mono ?_; rintro e2 w2 ⟨r, rfl, H2⟩)
  go_wp2_with (go_at_call 10; refine (kept_wakes H2.out.1).mono ?_; rintro e3 w3 ⟨rfl, H3⟩)
  go_wp2_with (go_at_call 10; refine (kept_wakes H3.out.1).mono ?_; rintro e4 w4 ⟨rfl, H4⟩)
  go_ret
  exact ⟨rfl, H4.out.1.2.1⟩
theorem kept_turn {w0 w w' : World} {a r g : Nat} {l : List KV} {T : Nat → Int} (h : Kept w0 w a r l T) (ht : Turn (fun j => j = g) w w') (h1 : w0.heap.size ≤ g) (h2 : g < a) : Kept w0 w' a r l T :=
  ⟨h.1.turn ht (fun k _ hz hg => by omega), h.2.1.trans (ht.toBelow h.2.1.size (fun k hk hg => by omega)), h.2.2.1, Nat.le_trans h.2.2.2 ht.size⟩
theorem kept_names {w0 w : World} {a r : Nat} {l : List KV} {T : Nat → Int} (h : Kept w0 w a r l T) :
    Calls Try.prog 12 #[.pointer (some ⟨r, 0, none⟩)] w fun y w' => ∃ v B, y = .returned v ∧ Hid (w'.ownsRow B 9 1 v l.length ((srt l).map Value.string) ∧ RingAt w' (fun k => a ≤ k ∧ k < B) r l T ∧ Below w0.heap.size w0 w' ∧ w0.heap.size ≤ a ∧ a ≤ B) := by
  refine (at_names h.1 (fun k hk => Nat.le_trans h.2.2.2 hk)).mono ?_
  rintro y w' ⟨v, B, rfl, hB, ho, hr, ht⟩
  exact ⟨v, B, rfl, ho, hr, h.2.1.trans (ht.toBelow h.2.1.size (fun k hk hg => by have := h.2.2.1; omega)), h.2.2.1, Nat.le_trans h.2.2.2 hB⟩
theorem named_turn {w0 w w' : World} {a r B g : Nat} {l : List KV} {T : Nat → Int} {v : Value} {n : Nat} {xs : List Value} (h : w.ownsRow B 9 1 v n xs ∧ RingAt w (fun k => a ≤ k ∧ k < B) r l T ∧ Below w0.heap.size w0 w ∧ w0.heap.size ≤ a ∧ a ≤ B)
    (ht : Turn (fun j => j = g) w w') (hg : B ≤ g) : RingAt w' (fun k => a ≤ k) r l T ∧ Below w0.heap.size w0 w' ∧ w0.heap.size ≤ a :=
  ⟨(h.2.1.turn ht (fun k _ hz hg => by omega)).shrink (fun k _ hz => hz.1), h.2.2.1.trans (ht.toBelow h.2.2.1.size (fun k hk hg => by omega)), h.2.2.2.1⟩
theorem own_find {w0 w : World} {r x : Nat} {l : List KV} {T T' : Nat → Int} {i : Nat} (s : ByteArray) (h : Both w0 w r x l T T') (hs : s.size ≤ maxLen) (hi : i < l.length) (hf : fnd l s = some i) :
    Calls Try.prog 14 #[.pointer (some ⟨r, 0, none⟩), .string s] w fun y w' => y = .returned (.tuple #[.string l[i].2, .int .i64 0]) ∧ Hid (Both w0 w' r x l (upd T i) T') := by
  obtain ⟨Zr, Zx, h1, h2, h3, h4, h5, h6⟩ := h
  refine (at_find_some h1 s hs i hi hf).mono ?_
  rintro y w' ⟨rfl, k1, k2⟩
  exact ⟨rfl, Zr, Zx, k1, h2.turn k2 (fun k _ hx hr => h3 k hr hx), h3, fun k hk => h4 k (Nat.le_trans k2.size hk), h5, h6.trans (k2.toBelow h6.size (fun k hk hr => by have := h5 k (Or.inl hr); omega))⟩
theorem lies_n {w : World} {base : Nat} {v : Value} {l : List KV} {n : Nat} (hn : n = l.length) (h : w.ownsRow base 37 2 v n (flat l)) : Lies w v l := by
  subst hn
  exact Lies.own h
set_option maxRecDepth 100000 in
set_option maxHeartbeats 2000000 in
theorem own_good (w : World) (a : Option Addr) (cap : Nat) (l : List KV) (h : Lies w (.slice a l.length cap) l) (hbig : l.length * 32 ≤ 140737488355328) (h0 : newCode l = 0) (hpos : 0 < l.length) (hz : ∀ e ∈ l, e.1.size ≤ maxLen) :
    Calls Try.prog 4 #[.slice a l.length cap] w fun y w' => y = .returned (.bool true) ∧ Below w.heap.size w w' := by
  have HC := Lib.hid (step_copied w (.slice a l.length cap) l h hbig)
  have HL := Lib.hid h
  have H0 := Lib.hid h0
  have hlen : l.length ≤ 64 := by
    unfold newCode at h0
    split at h0
    · cases h0
    · omega
  obtain ⟨n, hn⟩ : ∃ n, n = l.length := ⟨_, rfl⟩
  have HN := Lib.hid hn
  rw [← hn] at HC HL hpos hlen ⊢
  have p1 : (0 : Int) < (n : Int) := by omega
  have p2 : ¬ ((n : Int) = 0) := by omega
  have p3 : ((n : Int) == 0) = false := beq_false_of_ne p2
  have HP := Lib.hid hpos
  have HZ := Lib.hid hz
  clear h hbig h0 hpos hn hz
  go_enter Try.func4, Try.ntmps4
  go_wp2_with (go_at_call 8; refine HC.out.mono ?_; rintro e1 w1 ⟨v1, rfl, H1⟩; obtain ⟨g, cap1, rfl, hob, hgl, _, _⟩ := ownsRow_cells H1.out.1 HP.out)
  go_wp2_with (go_at_call 7; refine (kept_new H0.out (lies_n HN.out H1.out.1) H1.out.2).mono ?_; rintro e2 w2 ⟨r, rfl, H2⟩)
  go_wp2_with (go_at_call 10; refine (kept_wakes H2.out.1).mono ?_; rintro e3 w3 ⟨rfl, H3⟩)
  have HROW := Lib.hid (show w3.ownsRow 0 37 2 (.slice (some ⟨g, 0, none⟩) n cap1) n (flat l) from
    ownsRow_same (ownsRow_same (ownsRow_base H1.out.1 (Nat.zero_le _)) (fun j hj => by cases hj; exact H2.out.2.block g hgl)) (fun j hj => by cases hj; exact H3.out.2.block g (Nat.lt_of_lt_of_le hgl H2.out.2.size)))
  have HGL := Lib.hid hgl
  clear hob hgl
  go_loopw [43] (fun v43 wr => ∃ (k : Nat) (xs : List Value), v43 = .int .i64 (k : Nat) ∧ k ≤ n ∧ wr.ownsRow 0 37 2 (.slice (some ⟨g, 0, none⟩) n cap1) n xs ∧ Turn (fun j => j = g) w3 wr) (fun v43 _ => n - (intOf v43).toNat)
  case atStart => exact ⟨0, _, rfl, Nat.zero_le _, HROW.out, Turn.refl _ _⟩
  case round =>
    obtain ⟨k, xs, rfl, hk, hrow, htu⟩ := hrel
    have HRO := Lib.hid hrow
    have HTU := Lib.hid htu
    have hxl : xs.length = n * 2 := hrow.1
    by_cases hlt : k < n
    · have t1 : decide ((k : Int) < (n : Int)) = true := decide_eq_true (by omega)
      have k0 := cell_row hrow rfl (i := k * 2) (u := xs[k * 2]'(by omega)) (List.getElem?_eq_getElem _)
      have k1 := cell_row hrow rfl (i := k * 2 + 1) (u := xs[k * 2 + 1]'(by omega)) (List.getElem?_eq_getElem _)
      obtain ⟨x0, hx0⟩ : ∃ x0, x0 = xs[k * 2]'(by omega) := ⟨_, rfl⟩
      obtain ⟨x1, hx1⟩ : ∃ x1, x1 = xs[k * 2 + 1]'(by omega) := ⟨_, rfl⟩
      rw [← hx0] at k0
      rw [← hx1] at k1
      obtain ⟨cur, hcur⟩ := ownsRow_elem hrow g rfl
      have f0 := frozen_of (j := k * 2) hcur
      have f1 := frozen_of (j := k * 2 + 1) hcur
      clear hx0 hx1 hcur hrow htu hxl
      go_wp2
      exact ⟨⟨k + 1, _, by simp, by omega, ownsRow_set (ownsRow_set HRO.out rfl _ _) rfl _ _, (HTU.out.setCell rfl _).setCell rfl _⟩, by simp [intOf]; omega⟩
    · obtain rfl : k = n := by omega
      have t1 : decide ((k : Int) < (k : Int)) = false := decide_eq_false (by omega)
      have hgw : w.heap.size ≤ g := (H1.out.1.lt g rfl).1
      have HK := Lib.hid (kept_turn H3.out.1 htu hgw HGL.out)
      clear hrow htu hxl hgw
      go_wp2_with (go_at_call 12; refine (kept_names HK.out).mono ?_; rintro e5 w5 ⟨v7, B, rfl, H5⟩; have hrow5 := H5.out.1; rw [← HN.out] at hrow5; obtain ⟨g7, cap7, rfl, hob, hgl, _, _⟩ := ownsRow_cells hrow5 HP.out; have HG7 := Lib.hid (hrow5.lt g7 rfl).1; have HR5 := Lib.hid hrow5; clear hob hgl hrow5)
      go_loopw [55] (fun v55 wq => ∃ (j : Nat) (ys : List Value), v55 = .int .i64 (j : Nat) ∧ j ≤ k ∧ wq.ownsRow B 9 1 (.slice (some ⟨g7, 0, none⟩) k cap7) k ys ∧ Turn (fun j => j = g7) w5 wq) (fun v55 _ => k - (intOf v55).toNat)
      case atStart => exact ⟨0, _, rfl, Nat.zero_le _, HR5.out, Turn.refl _ _⟩
      case round =>
        obtain ⟨j, ys, rfl, hj, hrow, htu⟩ := hrel
        have HRO2 := Lib.hid hrow
        have HTU2 := Lib.hid htu
        have hyl : ys.length = k := by have := hrow.1; omega
        by_cases hlt2 : j < k
        · have t2 : decide ((j : Int) < (k : Int)) = true := decide_eq_true (by omega)
          have k0 := cell_row hrow rfl (i := j) (u := ys[j]'(by omega)) (List.getElem?_eq_getElem _)
          obtain ⟨y0, hy0⟩ : ∃ y0, y0 = ys[j]'(by omega) := ⟨_, rfl⟩
          rw [← hy0] at k0
          obtain ⟨cur, hcur⟩ := ownsRow_elem (ownsRow_base hrow (Nat.zero_le _)) g7 rfl
          have f0 := frozen_of (j := j) hcur
          clear hy0 hcur hrow htu hyl
          go_wp2
          exact ⟨⟨j + 1, _, by simp, by omega, ownsRow_set HRO2.out rfl _ _, HTU2.out.setCell rfl _⟩, by simp [intOf]; omega⟩
        · obtain rfl : j = k := by omega
          have t2 : decide ((j : Int) < (j : Int)) = false := decide_eq_false (by omega)
          have HK2 := Lib.hid (named_turn H5.out htu HG7.out)
          clear hrow htu hyl
          obtain ⟨a9, c9, e9, hc9⟩ := HL.out
          obtain ⟨b, off, e8, hb, d0, d1⟩ := hc9 0 (by rw [← HN.out]; exact HP.out)
          obtain ⟨rfl, hjl, rfl⟩ : a = a9 ∧ j = l.length ∧ cap = c9 := by simpa using e9
          clear hjl
          subst e8
          obtain ⟨nm, hnm⟩ : ∃ nm, nm = (l[0]'(by rw [← HN.out]; exact HP.out)).1 := ⟨_, rfl⟩
          obtain ⟨ky, hky⟩ : ∃ ky, ky = (l[0]'(by rw [← HN.out]; exact HP.out)).2 := ⟨_, rfl⟩
          rw [← hnm] at d0
          rw [← hky] at d1
          have HD := Lib.hid (And.intro hb (And.intro (show w.cell? ⟨b, off, none⟩ = some (.string nm) by simpa using d0) (show w.cell? ⟨b, off + 1, none⟩ = some (.string ky) by simpa using d1)))
          have HF := Lib.hid (fun (w6 : World) (x : Nat) (hb6 : Both w w6 r x l (fun _ => 0) (fun _ => 0)) => own_find (i := 0) nm hb6 (by rw [hnm]; exact HZ.out _ (List.getElem_mem _)) (by rw [← HN.out]; exact HP.out) (fnd_at (by rw [← HN.out]; exact HP.out) (fun i _ hi => absurd hi (Nat.not_lt_zero i)) hnm.symm))
          rw [← hky] at HF
          clear e9 hc9 hb d0 d1 hnm hky
          go_wp2_with (go_at_call 9; refine (step_rnew (w := w) (w1 := w1) H0.out HL.out HK2.out.2.1 HK2.out.2.2 HK2.out.1).mono ?_; rintro e6 w6 ⟨x, rfl, H6⟩; have c6 := (H6.out.1.below.cell HD.out.1).trans HD.out.2.1)
          go_wp2_with (go_at_call 14; refine (HF.out _ _ H6.out.1).mono ?_; rintro e7 w7 ⟨rfl, H7⟩)
          go_wp2_with (go_at_call 12; refine (both_names H7.out).mono ?_; rintro e8 w8 ⟨v8, rfl, H8⟩)
          go_wp2_with (go_at_call 13; refine (both_rnames H8.out.1 H8.out.2).mono ?_; rintro e9 w9 ⟨v9, rfl, H9⟩)
          go_wp2_with (go_at_call 11; refine (both_same H9.out.1 H9.out.2.1 H9.out.2.2).mono ?_; rintro e10 w10 ⟨rfl, H10⟩; have c10 := (H10.out.below.cell HD.out.1).trans HD.out.2.2)
          go_ret
          exact ⟨rfl, H10.out.below⟩
theorem own_t (w : World) (v : Value) (l : List KV) (h : Lies w v l) (hbig : l.length * 32 ≤ 140737488355328) (hz : ∀ e ∈ l, e.1.size ≤ maxLen ∧ e.2.size ≤ maxLen) :
    Calls Try.prog 4 #[v] w fun y w' => y = .returned (.bool true) ∧ Below w.heap.size w w' := by
  obtain ⟨a, cap, rfl, hc⟩ := h
  by_cases h0 : newCode l = 0
  · rcases Nat.eq_zero_or_pos l.length with hl | hl
    · rw [hl]; exact own_nil w a cap
    · exact own_good w a cap l ⟨a, cap, rfl, hc⟩ hbig h0 hl (fun e he => (hz e he).1)
  · exact own_bad w _ l a l.length cap rfl ⟨a, cap, rfl, hc⟩ hbig h0
end Go.Proofs.Ytofikcmjpecmoaa
