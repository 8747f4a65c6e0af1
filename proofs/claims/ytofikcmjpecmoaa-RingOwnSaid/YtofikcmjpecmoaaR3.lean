/- The document's ring (ref): how it lies, and its words. No walk. -/
import Derived.Test.YtofikcmjpecmoaaA1
namespace Go.Proofs.Ytofikcmjpecmoaa
open Go.RowKit Go.ChangeMaps Go.Maps Go.WideMaps
def flat (l : List KV) : List Value := l.flatMap fun e => [.string e.1, .string e.2]
def cnts (n : Nat) (T : Nat → Int) : List Value := (List.range n).map fun i => .int .i64 (T i)
theorem flat_length (l : List KV) : (flat l).length = l.length * 2 := by
  induction l with
  | nil => rfl
  | cons e l ih => simp only [flat, List.flatMap_cons, List.length_append, List.length_cons, List.length_nil] at ih ⊢; omega
theorem flat_get (l : List KV) (i : Nat) (h : i < l.length) : (flat l)[i * 2]? = some (.string l[i].1) ∧ (flat l)[i * 2 + 1]? = some (.string l[i].2) := by
  induction l generalizing i with
  | nil => simp at h
  | cons e l ih =>
    have e1 : flat (e :: l) = .string e.1 :: .string e.2 :: flat l := rfl
    rw [e1]
    rcases i with _ | i
    · exact ⟨rfl, rfl⟩
    · have h' : i < l.length := by simpa using h
      have := ih i h'
      have e2 : (i + 1) * 2 = i * 2 + 1 + 1 := by omega
      rw [e2]
      simpa using this
theorem flat_snoc (l : List KV) (e : KV) : flat (l ++ [e]) = flat l ++ [.string e.1, .string e.2] := by simp [flat]
theorem cnts_length (n : Nat) (T : Nat → Int) : (cnts n T).length = n := by simp [cnts]
theorem cnts_get (n : Nat) (T : Nat → Int) (i : Nat) (h : i < n) : (cnts n T)[i]? = some (.int .i64 (T i)) := by simp [cnts, h]
theorem cnts_snoc (n : Nat) : cnts (n + 1) (fun _ => 0) = cnts n (fun _ => 0) ++ [.int .i64 0] := by simp [cnts, List.range_succ]
theorem cnts_upd (n : Nat) (T : Nat → Int) (i : Nat) (h : i < n) : (cnts n T).set i (.int .i64 (bump (T i))) = cnts n (upd T i) := by
  apply List.ext_getElem?
  intro j
  by_cases hj : j = i
  · subst hj
    rw [List.getElem?_set_self (by rw [cnts_length]; exact h), cnts_get _ _ _ h]; simp [upd]
  · rw [List.getElem?_set_ne (Ne.symm hj)]
    by_cases hn : j < n
    · rw [cnts_get _ _ _ hn, cnts_get _ _ _ hn]; simp [upd, hj]
    · rw [List.getElem?_eq_none (by rw [cnts_length]; omega), List.getElem?_eq_none (by rw [cnts_length]; omega)]
/-- the place of a name as a number -/
def plc : Option Nat → Int
  | some i => (i : Int)
  | none => -1
theorem fnd_at {l : List KV} {s : ByteArray} {k : Nat} (hk : k < l.length) (hb : ∀ j (h : j < l.length), j < k → l[j].1 ≠ s) (he : l[k].1 = s) : fnd l s = some k := by
  unfold fnd
  rw [List.findIdx?_eq_some_iff_getElem]
  refine ⟨hk, by simp [he], fun j hj => ?_⟩
  have := hb j (by omega) hj
  simp only [decide_eq_true_eq]
  exact fun e => this (ba_ext e)
theorem fnd_no {l : List KV} {s : ByteArray} (hb : ∀ j (h : j < l.length), l[j].1 ≠ s) : fnd l s = none := by
  unfold fnd
  rw [List.findIdx?_eq_none_iff]
  intro e he
  obtain ⟨j, hj, rfl⟩ := List.getElem_of_mem he
  exact decide_eq_false (fun e => hb j hj (ba_ext e))
theorem ownsRow_cells {w : World} {base : Nat} {e : TypeId} {size : Nat} {v : Value} {n : Nat} {xs : List Value} (h : w.ownsRow base e size v n xs) (hn : 0 < n) :
    ∃ g cap, v = .slice (some ⟨g, 0, none⟩) n cap ∧ v.ownBlock = some g ∧ g < w.heap.size ∧ (∃ cur, w.heap[g]? = some (.cells cur e (0, 0))) ∧ ∀ j u, xs[j]? = some u → w.cell? ⟨g, j, none⟩ = some u := by
  rcases h.2 with ⟨_, rfl⟩ | ⟨g, cap, cur, rfl, _, hg, _, _, _, ht⟩
  · omega
  · refine ⟨g, cap, rfl, rfl, (Array.getElem?_eq_some_iff.1 hg).1, ⟨cur, hg⟩, fun j u hj => ?_⟩
    have := h.cells (g := g) rfl j u hj
    rcases Nat.eq_zero_or_pos j with rfl | hj0
    · simpa [Addr.add] using this
    · simpa [Addr.add, Nat.ne_of_gt hj0] using this
/-- a cell of the row is written -/
theorem ownsRow_set {w : World} {base : Nat} {e : TypeId} {size : Nat} {v : Value} {n : Nat} {xs : List Value} (h : w.ownsRow base e size v n xs) {g : Nat} (hg : v.ownBlock = some g) (i : Nat) (u : Value) :
    (w.setCell ⟨g, i, none⟩ u).ownsRow base e size v n (xs.set i u) := by
  refine ⟨by rw [List.length_set]; exact h.1, ?_⟩
  rcases h.2 with ⟨rfl, _⟩ | ⟨g', cap, cur, rfl, hb, hh, h1, h2, h3, h4⟩
  · cases hg
  · obtain rfl := Option.some.inj hg
    refine Or.inr ⟨_, cap, _, rfl, hb, heap_setCell_same hh u, h1, h2, by simpa using h3, ?_⟩
    rw [← h4]
    rw [Array.toList_setIfInBounds, ← List.take_set]
structure RefIn (w : World) (Z : Nat → Prop) (x : Nat) (vL vT : Value) (l : List KV) (T : Nat → Int) : Prop where
  hx : w.heap[x]? = some (.cells #[vL, vT] 76 (0, 0))
  hl : w.ownsRow 0 37 2 vL l.length (flat l)
  ht : w.ownsRow 0 3 1 vT l.length (cnts l.length T)
  zx : Z x
  zl : ∀ g, vL.ownBlock = some g → Z g
  zt : ∀ g, vT.ownBlock = some g → Z g
  len : l.length ≤ 64
def RefAt (w : World) (Z : Nat → Prop) (x : Nat) (l : List KV) (T : Nat → Int) : Prop := ∃ vL vT, RefIn w Z x vL vT l T
section
variable {w w' : World} {Z Y : Nat → Prop} {x : Nat} {vL vT : Value} {l : List KV} {T : Nat → Int}
theorem RefIn.same (h : RefIn w Z x vL vT l T) (hk : ∀ k, k < w.heap.size → Z k → w'.heap[k]? = w.heap[k]?) : RefIn w' Z x vL vT l T :=
  ⟨(hk _ (Array.getElem?_eq_some_iff.1 h.hx).1 h.zx).trans h.hx, ownsRow_same h.hl (fun g hg => hk g (h.hl.lt g hg).2 (h.zl g hg)), ownsRow_same h.ht (fun g hg => hk g (h.ht.lt g hg).2 (h.zt g hg)), h.zx, h.zl, h.zt, h.len⟩
theorem RefAt.turn (h : RefAt w Z x l T) (ht : Turn Y w w') (hd : ∀ k, k < w.heap.size → Z k → ¬ Y k) : RefAt w' Z x l T := by
  obtain ⟨vL, vT, h⟩ := h
  exact ⟨vL, vT, h.same (fun k hk hz => ht.block k hk (hd k hk hz))⟩
theorem RefAt.shrink (h : RefAt w Z x l T) (hz : ∀ k, k < w.heap.size → Z k → Y k) : RefAt w Y x l T := by
  obtain ⟨vL, vT, h⟩ := h
  exact ⟨vL, vT, h.hx, h.hl, h.ht, hz _ (Array.getElem?_eq_some_iff.1 h.hx).1 h.zx, fun g hg => hz g (h.hl.lt g hg).2 (h.zl g hg), fun g hg => hz g (h.ht.lt g hg).2 (h.zt g hg), h.len⟩
/-- the count at place i goes up -/
theorem RefIn.told (h : RefIn w Z x vL vT l T) {i : Nat} (hi : i < l.length) {g : Nat} (hg : vT.ownBlock = some g) :
    RefIn (w.setCell ⟨g, i, none⟩ (.int .i64 (bump (T i)))) Z x vL vT l (upd T i) := by
  obtain ⟨c, hc⟩ := ownsRow_elem h.ht g hg
  have h1 : x ≠ g := fun e => by have := h.hx; rw [e, hc] at this; simp at this
  refine ⟨(heap_setCell_other h1 _).trans h.hx, ownsRow_set_aside h.hl (fun e => ?_), ?_, h.zx, h.zl, h.zt, h.len⟩
  · obtain ⟨c2, hc2⟩ := ownsRow_elem h.hl g e.symm
    rw [hc] at hc2; simp at hc2
  · rw [← cnts_upd _ _ _ hi]
    exact ownsRow_set h.ht hg i _
end
end Go.Proofs.Ytofikcmjpecmoaa
