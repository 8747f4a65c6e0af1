/- Ring: Names, over this dump. -/
import Derived.Test.YtofikcmjpecmoaaW6
import Derived.Test.YtofikcmjpecmoaaW3
namespace Go.Proofs.Ytofikcmjpecmoaa
open Go.RowKit Go.ChangeMaps Go.Maps Go.WideMaps
theorem ownsRow_base {w : World} {base : Nat} {e : TypeId} {size : Nat} {v : Value} {n : Nat} {xs : List Value} (h : w.ownsRow base e size v n xs) {b : Nat} (hb : b ≤ base) : w.ownsRow b e size v n xs := by
  refine ⟨h.1, ?_⟩
  rcases h.2 with h2 | ⟨g, cap, cur, rfl, hg, r⟩
  · exact Or.inl h2
  · exact Or.inr ⟨g, cap, cur, rfl, Nat.le_trans hb hg, r⟩
def sb (L : List E) : List ByteArray := (sorted L).map fun x => ⟨x.toArray⟩
theorem strs_sb (L : List E) : strs (sorted L) = (sb L).map Value.string := by simp [strs, sb]
theorem sb_length (L : List E) : (sb L).length = L.length := by simp [sb, sorted_length]
/-- slices.Clone of a list that a row owns -/
theorem clone_t (w : World) (v : Value) (n : Nat) (zs : List ByteArray) (hl : zs.length = n) (hn : n ≤ 64) (h : w.ownsRow 0 9 1 v n (zs.map Value.string)) :
    Calls Try.prog 24 #[v] w fun e w' => ∃ v', e = .returned v' ∧ w'.ownsRow w.heap.size 9 1 v' n (zs.map Value.string) ∧ Below w.heap.size w w' := by
  rcases h.2 with ⟨rfl, rfl⟩ | ⟨g, cap, cur, rfl, hg, hh, h1, h2, h3, h4⟩
  · obtain rfl : zs = [] := List.length_eq_zero_iff.1 hl
    refine (Try.slices_Clone_string_nil 0 0 w).mono ?_
    rintro e w' ⟨rfl, rfl⟩
    exact ⟨_, rfl, World.ownsRow_nil _ _ _ _, Below.refl _ _⟩
  · refine (Try.slices_Clone_string g 0 n cap zs w (by omega) (by omega) (fun j hj => ?_)).mono ?_
    · have := h.cells (g := g) rfl j (.string (zs.getD j ByteArray.empty)) (by simp [List.getD, List.getElem?_eq_getElem hj])
      rcases Nat.eq_zero_or_pos j with rfl | hj0
      · simpa [Addr.add] using this
      · simpa [Addr.add, Nat.ne_of_gt hj0] using this
    · rintro e w' ⟨v', rfl, ho, _, hb⟩
      rw [List.take_of_length_le (by omega)] at ho
      exact ⟨v', rfl, ho, hb⟩
theorem RingIn.shrink {w : World} {Z Z' : Nat → Prop} {r m : Nat} {va : Value} {dn : Int} {vn : Value} {L : List E} (h : RingIn w Z r m va dn vn L)
    (hz : ∀ k, k < w.heap.size → Z k → Z' k) : RingIn w Z' r m va dn vn L := by
  have lt : ∀ {k : Nat} {o : Obj}, w.heap[k]? = some o → k < w.heap.size := fun hh => (Array.getElem?_eq_some_iff.1 hh).1
  refine ⟨h.hr, h.hm, h.ha, h.hp, hz _ (lt h.hr) h.zr, hz _ (lt h.hm) h.zm, fun g hg => hz _ (h.ha.lt g hg).2 (h.za g hg), fun g hg => ?_, fun e he => hz _ (lt (h.hp e he)) (h.zp e he), h.nd, h.ndp, h.sz, h.len, h.once⟩
  rcases h.once with ⟨_, rfl⟩ | ⟨_, h2⟩
  · cases hg
  · exact hz _ (h2.lt g hg).2 (h.zn g hg)
section
variable {w : World} {Z : Nat → Prop} {r m : Nat} {va : Value} {dn : Int} {vn : Value} {L : List E}
/-- the once at a ring -/
theorem once_t (h : RingIn w Z r m va dn vn L) (hz : ∀ k, w.heap.size ≤ k → Z k) :
    Calls Try.prog 22 #[.pointer (some ⟨r, 2, none⟩), .func (.func 23) #[.pointer (some ⟨r, 0, none⟩)] #[]] w fun e w' => e = .returned (.tuple #[]) ∧
      ∃ vn', RingIn w' Z r m va 1 vn' L ∧ Turn Z w w' := by
  rcases h.once with ⟨rfl, rfl⟩ | ⟨rfl, h2⟩
  · have hs : Calls Try.prog 23 #[.pointer (some ⟨r, 0, none⟩)] (w.setCell ⟨r, 2 + 1, none⟩ (.int .i32 1)) fun e w' => e = .returned (.tuple #[]) ∧
        ∃ vn, w'.heap[r]? = some (.cells #[.map (some m), va, .int .u32 0, .int .i32 1, .int .u32 0, vn] 67 (0, 0)) ∧ w'.ownsRow w.heap.size 9 1 vn L.length (strs (sorted L)) ∧
          Turn (fun k => k = r ∨ w.heap.size ≤ k) (w.setCell ⟨r, 2 + 1, none⟩ (.int .i32 1)) w' := by
      have hsz : (w.setCell ⟨r, 3, none⟩ (.int .i32 1)).heap.size = w.heap.size := by simp [World.setCell]
      have := sort_t (w.setCell ⟨r, 3, none⟩ (.int .i32 1)) r (.map (some m)) (.int .u32 0) (.int .i32 1) (.int .u32 0) va L
        (by rw [heap_setCell_same h.hr]; rfl)
        (ownsRow_set_aside h.ha (fun e1 => by
          obtain ⟨c, hc⟩ := ownsRow_elem h.ha r e1.symm
          rw [h.hr] at hc; simp at hc))
        (fun e he => (heap_setCell_other (fun e1 => by
          have := h.hp e he
          rw [e1, h.hr] at this; simp at this) _).trans (h.hp e he)) h.len
      rw [hsz] at this
      exact this
    refine (do_first r 2 (.pointer (some ⟨r, 0, none⟩)) w _ (cell_of h.hr rfl) (cell_of h.hr rfl) (frozen_of h.hr) hs ?_).mono ?_
    · rintro w' ⟨vn, h1, _, _⟩
      exact ⟨cell_of h1 rfl, cell_of h1 rfl, frozen_of h1, frozen_of h1⟩
    · rintro e w' ⟨rfl, w1, ⟨vn, h1, h2, h3⟩, rfl⟩
      have hlt : r < w.heap.size := (Array.getElem?_eq_some_iff.1 h.hr).1
      have hne : some r ≠ vn.ownBlock := fun e1 => by have := (h2.lt r e1.symm).1; omega
      have ht0 : Turn (fun k => k = r ∨ w.heap.size ≤ k) w ((w1.drew.setCell ⟨r, 2, none⟩ (.int .u32 1)).setCell ⟨r, 2 + 1, none⟩ (.int .i32 0)) :=
        (((((Turn.refl _ w).setCell (Or.inl rfl) _).trans h3).drew).setCell (Or.inl rfl) _).setCell (Or.inl rfl) _
      have hr1 : ((w1.drew.setCell ⟨r, 2, none⟩ (.int .u32 1)).setCell ⟨r, 2 + 1, none⟩ (.int .i32 0)).heap[r]? = some (.cells (ringCells m va 1 vn) 67 (0, 0)) := by
        have h4 : w1.drew.heap[r]? = some (.cells #[.map (some m), va, .int .u32 0, .int .i32 1, .int .u32 0, vn] 67 (0, 0)) := h1
        rw [heap_setCell_same (heap_setCell_same h4 _)]
        rfl
      have lt : ∀ {k : Nat} {o : Obj}, w.heap[k]? = some o → k < w.heap.size := fun hh => (Array.getElem?_eq_some_iff.1 hh).1
      refine ⟨rfl, vn, ⟨hr1, (ht0.block m (lt h.hm) ?_).trans h.hm, ownsRow_same h.ha (fun g hg => ht0.block g (h.ha.lt g hg).2 ?_), fun e he => (ht0.block e.p (lt (h.hp e he)) ?_).trans (h.hp e he), h.zr, h.zm, h.za, fun g hg => hz g (h2.lt g hg).1, h.zp, h.nd, h.ndp, h.sz, h.len, Or.inr ⟨rfl, ?_⟩⟩, ht0.mono ?_⟩
      · rintro (rfl | hh)
        · have := h.hm; rw [h.hr] at this; simp at this
        · have := lt h.hm; omega
      · rintro (rfl | hh)
        · obtain ⟨c, hc⟩ := ownsRow_elem h.ha g hg
          rw [h.hr] at hc; simp at hc
        · have := (h.ha.lt g hg).2; omega
      · rintro (e1 | hh)
        · have := h.hp e he; rw [e1, h.hr] at this; simp at this
        · have := lt (h.hp e he); omega
      · exact ownsRow_base (ownsRow_set_aside (ownsRow_set_aside h2 hne) hne) (Nat.zero_le _)
      · rintro k _ (rfl | hh)
        · exact h.zr
        · exact hz k hh
  · refine (do_done r 2 _ w (cell_of h.hr rfl)).mono ?_
    rintro e w' ⟨rfl, rfl⟩
    exact ⟨rfl, vn, h, Turn.refl _ _⟩
set_option maxRecDepth 100000 in
theorem names_t (h : RingIn w Z r m va dn vn L) (hz : ∀ k, w.heap.size ≤ k → Z k) :
    Calls Try.prog 12 #[.pointer (some ⟨r, 0, none⟩)] w fun x w' => ∃ v vn' B, x = .returned v ∧ w.heap.size ≤ B ∧ w'.ownsRow B 9 1 v L.length ((sb L).map Value.string) ∧
      RingIn w' (fun k => Z k ∧ k < B) r m va 1 vn' L ∧ Turn Z w w' := by
  have c0 : w.cell? ⟨r, 0, none⟩ = some (.map (some m)) := cell_of h.hr rfl
  have q1 := eqlSome m
  have HO := once_t h hz
  have HLEN := Lib.hid h.len
  have HZ := Lib.hid hz
  clear h hz
  go_enter Try.func12, Try.ntmps12
  have step : ∀ (w1 : World) (vn' : Value), RingIn w1 Z r m va 1 vn' L → Turn Z w w1 →
      Hid (RingIn w1 Z r m va 1 vn' L ∧ Turn Z w w1) ∧ w1.cell? ⟨r, 5, none⟩ = some vn' ∧
      Hid (Calls Try.prog 24 #[vn'] w1 fun e w' => ∃ v', e = .returned v' ∧ w'.ownsRow w1.heap.size 9 1 v' L.length ((sb L).map Value.string) ∧ Below w1.heap.size w1 w') := by
    intro w1 vn' hr1 ht1
    refine ⟨⟨hr1, ht1⟩, cell_of hr1.hr rfl, clone_t w1 vn' L.length (sb L) (sb_length L) HLEN.out ?_⟩
    rcases hr1.once with ⟨h0, _⟩ | ⟨_, h2⟩
    · cases h0
    · rw [← strs_sb]; exact h2
  have STEP := Lib.hid step
  have HON := Lib.hid HO
  clear step HO
  go_wp2_with (first | (go_at_call 22; refine HON.out.mono ?_; rintro e1 w1 ⟨rfl, vn', hr1, ht1⟩; obtain ⟨HRT, c5, HC⟩ := STEP.out w1 vn' hr1 ht1; clear hr1 ht1) | (go_at_call 24; refine HC.out.mono ?_; rintro e2 w2 ⟨v', rfl, ho2, hb2⟩))
  go_ret
  obtain ⟨hr1, ht1⟩ := HRT.out
  refine ⟨_, vn', w1.heap.size, rfl, ht1.size, ho2, (hr1.shrink (Z' := fun k => Z k ∧ k < w1.heap.size) (fun k hk hk2 => ⟨hk2, hk⟩)).same (fun k hk _ => hb2.block k hk), ht1.below hb2 (fun k hk hk2 => HZ.out k (by have := ht1.size; omega))⟩
end
end Go.Proofs.Ytofikcmjpecmoaa
