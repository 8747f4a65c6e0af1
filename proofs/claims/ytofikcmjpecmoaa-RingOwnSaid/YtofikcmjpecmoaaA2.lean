/- A ring and a ref ring side by side; each pair of questions. -/
import Derived.Test.YtofikcmjpecmoaaW14
import Derived.Test.YtofikcmjpecmoaaW10
namespace Go.Proofs.Ytofikcmjpecmoaa
open Go.RowKit Go.ChangeMaps Go.Maps Go.WideMaps
def Both (w0 w : World) (r x : Nat) (l : List KV) (T T' : Nat → Int) : Prop := ∃ Zr Zx : Nat → Prop, RingAt w Zr r l T ∧ RefAt w Zx x l T' ∧ (∀ k, Zr k → ¬ Zx k) ∧ (∀ k, w.heap.size ≤ k → Zr k) ∧
  (∀ k, Zr k ∨ Zx k → w0.heap.size ≤ k) ∧ Below w0.heap.size w0 w
theorem Below.turn {B : Nat} {w w' : World} (h : Below B w w') : Turn (fun k => B ≤ k) w w' := ⟨h.os, h.tape, h.output, h.size, fun k _ hz => h.block k (by omega)⟩
theorem Lies.grow {w w' : World} {v : Value} {l : List KV} (h : Lies w v l) {B : Nat} (hB : w.heap.size ≤ B) (hb : Below B w w') : Lies w' v l := by
  obtain ⟨a, cap, rfl, hc⟩ := h
  refine ⟨a, cap, rfl, fun i hi => ?_⟩
  obtain ⟨b, off, rfl, h1, h2, h3⟩ := hc i hi
  exact ⟨b, off, rfl, Nat.lt_of_lt_of_le h1 hb.size, (hb.cell (Nat.lt_of_lt_of_le h1 hB)).trans h2, (hb.cell (Nat.lt_of_lt_of_le h1 hB)).trans h3⟩
theorem Lies.own {w : World} {base : Nat} {v : Value} {l : List KV} (h : w.ownsRow base 37 2 v l.length (flat l)) : Lies w v l := by
  rcases Nat.eq_zero_or_pos l.length with h0 | hpos
  · obtain ⟨a, cap, rfl⟩ := ownsRow_form h
    exact ⟨a, cap, rfl, fun i hi => by omega⟩
  · obtain ⟨g, cap, rfl, _, hg, _, hc⟩ := ownsRow_cells h hpos
    refine ⟨_, cap, rfl, fun i hi => ⟨g, 0, rfl, hg, ?_, ?_⟩⟩
    · rw [Nat.zero_add]; exact hc _ _ (flat_get l i hi).1
    · rw [Nat.zero_add]; exact hc _ _ (flat_get l i hi).2
section
variable {w0 w w' : World} {r x : Nat} {l : List KV} {T T' T2 : Nat → Int}
theorem both_made {w2 w3 : World} {a : Nat} (h0 : Below w0.heap.size w0 w2) (ha : w0.heap.size ≤ a) (hr : RingAt w2 (fun k => a ≤ k) r l T) (hx : RefAt w3 (fun k => w2.heap.size ≤ k) x l T') (hb : Below w2.heap.size w2 w3) : Both w0 w3 r x l T T' := by
  have hs := hb.size
  have hs0 := h0.size
  refine ⟨fun k => (a ≤ k ∧ k < w2.heap.size) ∨ w3.heap.size ≤ k, fun k => w2.heap.size ≤ k ∧ k < w3.heap.size, ?_, hx.shrink (fun k hk hz => ⟨hz, hk⟩), ?_, fun k hk => Or.inr hk, ?_, ?_⟩
  · exact (hr.shrink (fun k hk hz => Or.inl ⟨hz, hk⟩)).turn (Below.turn hb) (fun k hk _ => by omega)
  · intro k hk hz; omega
  · intro k hk; omega
  · exact h0.trans (hb.mono hs0)
theorem Both.ring (h : Both w0 w r x l T T') (hz : ∀ Zr : Nat → Prop, RingAt w Zr r l T → (∀ k, w.heap.size ≤ k → Zr k) → RingAt w' Zr r l T2 ∧ Turn Zr w w') : Both w0 w' r x l T2 T' := by
  obtain ⟨Zr, Zx, h1, h2, h3, h4, h5, h6⟩ := h
  obtain ⟨k1, k2⟩ := hz Zr h1 h4
  exact ⟨Zr, Zx, k1, h2.turn k2 (fun k _ hx hr => h3 k hr hx), h3, fun k hk => h4 k (Nat.le_trans k2.size hk), h5, h6.trans (k2.toBelow h6.size (fun k hk hr => by have := h5 k (Or.inl hr); omega))⟩
theorem Both.ref (h : Both w0 w r x l T T') (hz : ∀ Zx : Nat → Prop, RefAt w Zx x l T' → RefAt w' Zx x l T2 ∧ Turn Zx w w') : Both w0 w' r x l T T2 := by
  obtain ⟨Zr, Zx, h1, h2, h3, h4, h5, h6⟩ := h
  obtain ⟨k1, k2⟩ := hz Zx h2
  exact ⟨Zr, Zx, h1.turn k2 (fun k _ hr hx => h3 k hr hx), k1, h3, fun k hk => h4 k (Nat.le_trans k2.size hk), h5, h6.trans (k2.toBelow h6.size (fun k hk hr => by have := h5 k (Or.inr hr); omega))⟩
theorem Both.grow (h : Both w0 w r x l T T') (hb : Below w.heap.size w w') : Both w0 w' r x l T T' := by
  obtain ⟨Zr, Zx, h1, h2, h3, h4, h5, h6⟩ := h
  exact ⟨Zr, Zx, h1.turn (Below.turn hb) (fun k hk _ => by omega), h2.turn (Below.turn hb) (fun k hk _ => by omega), h3, fun k hk => h4 k (Nat.le_trans hb.size hk), h5, h6.trans (hb.mono h6.size)⟩
theorem Both.below (h : Both w0 w r x l T T') : Below w0.heap.size w0 w := by
  obtain ⟨Zr, Zx, h1, h2, h3, h4, h5, h6⟩ := h
  exact h6
theorem Both.ringAt (h : Both w0 w r x l T T') : ∃ Zr, RingAt w Zr r l T ∧ ∀ k, w.heap.size ≤ k → Zr k := by
  obtain ⟨Zr, Zx, h1, h2, h3, h4, h5, h6⟩ := h
  exact ⟨Zr, h1, h4⟩
theorem Both.refAt (h : Both w0 w r x l T T') : ∃ Zx vL vT, RefIn w Zx x vL vT l T' := by
  obtain ⟨Zr, Zx, h1, ⟨vL, vT, h2⟩, h3, h4, h5, h6⟩ := h
  exact ⟨Zx, vL, vT, h2⟩
theorem Calls.both {P : Program} {f : FuncId} {args : Array Value} {w : World} {A B : Ending → World → Prop} (ha : Calls P f args w A) (h : ∀ e w', A e w' → B e w') : Calls P f args w B := ha.mono h
/-- ring.Names, beside a ref ring -/
theorem both_names (h : Both w0 w r x l T T') :
    Calls Try.prog 12 #[.pointer (some ⟨r, 0, none⟩)] w fun y w' => ∃ v, y = .returned v ∧ Hid (Both w0 w' r x l T T' ∧ LiesS w' v (srt l)) := by
  obtain ⟨Zr, Zx, h1, h2, h3, h4, h5, h6⟩ := h
  refine (at_names h1 h4).mono ?_
  rintro y w' ⟨v, B, rfl, hB, ho, hr, ht⟩
  refine ⟨v, rfl, ⟨Zr, Zx, hr.shrink (fun k _ hz => hz.1), h2.turn ht (fun k _ hx hr => h3 k hr hx), h3, fun k hk => h4 k (Nat.le_trans ht.size hk), h5, h6.trans (ht.toBelow h6.size (fun k hk hr => by have := h5 k (Or.inl hr); omega))⟩, LiesS.own ho⟩
/-- ref.Names, beside it -/
theorem both_rnames (h : Both w0 w r x l T T') {v : Value} (hv : LiesS w v (srt l)) :
    Calls Try.prog 13 #[.pointer (some ⟨x, 0, none⟩)] w fun y w' => ∃ v2, y = .returned v2 ∧ Hid (Both w0 w' r x l T T' ∧ LiesS w' v (srt l) ∧ LiesS w' v2 (srt l)) := by
  obtain ⟨Zx, vL, vT, hx⟩ := h.refAt
  refine (rnames_t hx).mono ?_
  rintro y w' ⟨v2, rfl, ho, hb⟩
  exact ⟨v2, rfl, h.grow hb, hv.grow hb, LiesS.own ho⟩
theorem srt_length (l : List KV) : (srt l).length = l.length := by simp [srt]
theorem Both.len (h : Both w0 w r x l T T') : l.length ≤ 64 := by
  obtain ⟨Zr, h1, _⟩ := h.ringAt
  exact h1.len
theorem both_same (h : Both w0 w r x l T T') {v v2 : Value} (hv : LiesS w v (srt l)) (hv2 : LiesS w v2 (srt l)) :
    Calls Try.prog 11 #[v, v2] w fun y w' => y = .returned (.bool true) ∧ Hid (Both w0 w' r x l T T') := by
  refine (same_t w v v2 (srt l) (srt l) hv hv2 (by rw [srt_length]; have := h.len; omega)).mono ?_
  rintro y w' ⟨b, rfl, hb, d, rfl⟩
  obtain rfl : b = true := hb.2 rfl
  exact ⟨rfl, h.grow (Below.drewN (Below.refl _ _) d)⟩
theorem both_wakes (h : Both w0 w r x l T T') : Calls Try.prog 10 #[] w fun y w' => y = .returned (.bool true) ∧ Hid (Both w0 w' r x l T T') := by
  refine (wakes_t w).mono ?_
  rintro y w' ⟨rfl, hb⟩
  exact ⟨rfl, h.grow hb⟩
end
end Go.Proofs.Ytofikcmjpecmoaa
