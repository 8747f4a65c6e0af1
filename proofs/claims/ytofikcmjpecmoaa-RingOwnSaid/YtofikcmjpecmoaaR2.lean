/- Ring: the relation 'a ring lies at block r', and what keeps it. No walk. -/
import Derived.Test.YtofikcmjpecmoaaR1
namespace Go.Proofs.Ytofikcmjpecmoaa
open Go.RowKit Go.ChangeMaps Go.Maps Go.WideMaps
def ptrs (L : List E) : List Value := L.map fun e => .pointer (some ⟨e.p, 0, none⟩)
def sorted (L : List E) : List (List UInt8) := (L.map fun e => e.nm.data.toList).mergeSort fun x y => decide (x ≤ y)
def strs (l : List (List UInt8)) : List Value := l.map fun x => .string ⟨x.toArray⟩
def E.cells (e : E) : Array Value := #[.string e.nm, .string e.key, .int .i64 e.t]
def ringCells (m : Nat) (va : Value) (dn : Int) (vn : Value) : Array Value := #[.map (some m), va, .int .u32 dn, .int .i32 0, .int .u32 0, vn]
structure RingIn (w : World) (Z : Nat → Prop) (r m : Nat) (va : Value) (dn : Int) (vn : Value) (L : List E) : Prop where
  hr : w.heap[r]? = some (.cells (ringCells m va dn vn) 67 (0, 0))
  hm : w.heap[m]? = some (.map (ents L) L.length)
  ha : w.ownsRow 0 68 1 va L.length (ptrs L)
  hp : ∀ e ∈ L, w.heap[e.p]? = some (.cells e.cells 73 (0, 0))
  zr : Z r
  zm : Z m
  za : ∀ g, va.ownBlock = some g → Z g
  zn : ∀ g, vn.ownBlock = some g → Z g
  zp : ∀ e ∈ L, Z e.p
  nd : (L.map E.nm).Nodup
  ndp : (L.map E.p).Nodup
  sz : ∀ e ∈ L, e.nm.size ≤ 128
  len : L.length ≤ 64
  once : (dn = 0 ∧ vn = .slice none 0 0) ∨ (dn = 1 ∧ w.ownsRow 0 9 1 vn L.length (strs (sorted L)))
theorem ownsRow_same {w w' : World} {e : TypeId} {size : Nat} {v : Value} {n : Nat} {xs : List Value} (h : w.ownsRow 0 e size v n xs)
    (hk : ∀ g, v.ownBlock = some g → w'.heap[g]? = w.heap[g]?) : w'.ownsRow 0 e size v n xs := by
  refine ⟨h.1, ?_⟩
  rcases h.2 with h2 | ⟨g, cap, cur, rfl, hb, hg, r⟩
  · exact Or.inl h2
  · exact Or.inr ⟨g, cap, cur, rfl, hb, by rw [hk g rfl]; exact hg, r⟩
theorem ownsRow_elem {w : World} {e : TypeId} {size : Nat} {v : Value} {n : Nat} {xs : List Value} (h : w.ownsRow 0 e size v n xs) (g : Nat) (hg : v.ownBlock = some g) : ∃ cur, w.heap[g]? = some (.cells cur e (0, 0)) := by
  rcases h.2 with ⟨rfl, _⟩ | ⟨g', cap, cur, rfl, hb, hg', r⟩
  · cases hg
  · cases hg; exact ⟨cur, hg'⟩
/-- a ring stays what it is while its own blocks are as they were -/
theorem RingIn.same {w w' : World} {Z : Nat → Prop} {r m : Nat} {va : Value} {dn : Int} {vn : Value} {L : List E} (h : RingIn w Z r m va dn vn L)
    (hk : ∀ k, k < w.heap.size → Z k → w'.heap[k]? = w.heap[k]?) : RingIn w' Z r m va dn vn L := by
  have lt : ∀ {k : Nat} {o : Obj}, w.heap[k]? = some o → k < w.heap.size := fun hh => (Array.getElem?_eq_some_iff.1 hh).1
  refine ⟨(hk _ (lt h.hr) h.zr).trans h.hr, (hk _ (lt h.hm) h.zm).trans h.hm, ownsRow_same h.ha (fun g hg => hk g (h.ha.lt g hg).2 (h.za g hg)), fun e he => (hk _ (lt (h.hp e he)) (h.zp e he)).trans (h.hp e he), h.zr, h.zm, h.za, h.zn, h.zp, h.nd, h.ndp, h.sz, h.len, ?_⟩
  rcases h.once with h1 | ⟨h1, h2⟩
  · exact Or.inl h1
  · exact Or.inr ⟨h1, ownsRow_same h2 (fun g hg => hk g (h2.lt g hg).2 (h.zn g hg))⟩
theorem RingIn.turn {w w' : World} {Z Y : Nat → Prop} {r m : Nat} {va : Value} {dn : Int} {vn : Value} {L : List E} (h : RingIn w Z r m va dn vn L)
    (ht : Turn Y w w') (hd : ∀ k, k < w.heap.size → Z k → ¬ Y k) : RingIn w' Z r m va dn vn L :=
  h.same (fun k hk hz => ht.block k hk (hd k hk hz))
theorem cell_of {w : World} {b j : Nat} {c : Array Value} {e : TypeId} {v : Value} (h : w.heap[b]? = some (.cells c e (0, 0))) (hj : c[j]? = some v) : w.cell? ⟨b, j, none⟩ = some v := by
  simp [World.cell?, h, hj]
theorem frozen_of {w : World} {b j : Nat} {c : Array Value} {e : TypeId} (h : w.heap[b]? = some (.cells c e (0, 0))) : w.frozen? ⟨b, j, none⟩ = false := by
  simp [World.frozen?, h]
theorem heap_setCell_same {w : World} {b j : Nat} {c : Array Value} {e : TypeId} (h : w.heap[b]? = some (.cells c e (0, 0))) (v : Value) :
    (w.setCell ⟨b, j, none⟩ v).heap[b]? = some (.cells (c.setIfInBounds j v) e (0, 0)) := by
  simp [World.setCell, Array.getElem?_modify, h]
theorem heap_setCell_other {w : World} {b k j : Nat} (h : k ≠ b) (v : Value) : (w.setCell ⟨b, j, none⟩ v).heap[k]? = w.heap[k]? := by
  simp [World.setCell, Array.getElem?_modify, Ne.symm h]
/-- the entry e is told once more -/
def bump (t : Int) : Int := IntKind.i64.wrap (t + 1)
def told (p : Nat) (L : List E) : List E := L.map fun x => if x.p = p then { x with t := bump x.t } else x
theorem told_length (p : Nat) (L : List E) : (told p L).length = L.length := by simp [told]
theorem told_map {α : Type} (p : Nat) (L : List E) (f : E → α) (hf : ∀ x t, f { x with t := t } = f x) : (told p L).map f = L.map f := by
  simp only [told, List.map_map]
  refine List.map_congr_left (fun x _ => ?_)
  simp only [Function.comp]
  split
  · exact hf x _
  · rfl
theorem ents_told (p : Nat) (L : List E) : ents (told p L) = ents L := by
  have : ∀ (L : List E) (i : Nat), ((told p L).zipIdx i).map (fun x => E.entry x.2 x.1) = (L.zipIdx i).map (fun x => E.entry x.2 x.1) := by
    intro L
    induction L with
    | nil => intro i; rfl
    | cons x l ih =>
      intro i
      have e1 : told p (x :: l) = (if x.p = p then { x with t := bump x.t } else x) :: told p l := rfl
      rw [e1, List.zipIdx_cons, List.zipIdx_cons, List.map_cons, List.map_cons, ih]
      congr 1
      split <;> rfl
  simp [ents, this]
theorem told_mem {p : Nat} {L : List E} {x : E} (h : x ∈ told p L) : ∃ y ∈ L, x.p = y.p ∧ x.nm = y.nm ∧ x.key = y.key ∧ x.t = (if y.p = p then bump y.t else y.t) := by
  obtain ⟨y, hy, rfl⟩ := List.mem_map.1 h
  refine ⟨y, hy, ?_⟩
  by_cases hp : y.p = p
  · simp [hp]
  · simp [hp]
theorem mem_inj {α β : Type} (f : α → β) {l : List α} (hn : (l.map f).Nodup) {x y : α} (hx : x ∈ l) (hy : y ∈ l) (h : f x = f y) : x = y := by
  induction l with
  | nil => cases hx
  | cons a l ih =>
    rw [List.map_cons, List.nodup_cons] at hn
    rcases List.mem_cons.1 hx with rfl | hx'
    · rcases List.mem_cons.1 hy with rfl | hy'
      · rfl
      · exact absurd (h ▸ List.mem_map_of_mem hy') hn.1
    · rcases List.mem_cons.1 hy with rfl | hy'
      · exact absurd (h ▸ List.mem_map_of_mem hx') hn.1
      · exact ih hn.2 hx' hy'
/-- the store of the count -/
theorem RingIn.told {w : World} {Z : Nat → Prop} {r m : Nat} {va : Value} {dn : Int} {vn : Value} {L : List E} (h : RingIn w Z r m va dn vn L) {e : E} (he : e ∈ L) :
    RingIn (w.setCell ⟨e.p, 2, none⟩ (.int .i64 (bump e.t))) Z r m va dn vn (told e.p L) := by
  have hpe := h.hp e he
  have nr : r ≠ e.p := by intro e1; have := h.hr; rw [e1, hpe] at this; simp at this
  have nm : m ≠ e.p := by intro e1; have := h.hm; rw [e1, hpe] at this; simp at this
  have na : ∀ g, va.ownBlock = some g → g ≠ e.p := by
    intro g hg e1
    obtain ⟨c, hc⟩ := ownsRow_elem h.ha g hg
    rw [e1, hpe] at hc; simp at hc
  refine ⟨?_, ?_, ?_, ?_, h.zr, h.zm, h.za, h.zn, ?_, ?_, ?_, ?_, ?_, ?_⟩
  · rw [heap_setCell_other nr]; exact h.hr
  · rw [heap_setCell_other nm, ents_told, told_length]; exact h.hm
  · rw [told_length]
    have : ptrs (Ytofikcmjpecmoaa.told e.p L) = ptrs L := told_map _ _ _ (fun _ _ => rfl)
    rw [this]
    exact ownsRow_same h.ha (fun g hg => heap_setCell_other (na g hg) _)
  · intro x hx
    obtain ⟨y, hy, h1, h2, h3, h4⟩ := told_mem hx
    by_cases hyp : y.p = e.p
    · have hye : y = e := mem_inj E.p h.ndp hy he hyp
      subst hye
      rw [h1, heap_setCell_same hpe]
      simp [E.cells, h2, h3, h4]
    · rw [h1, heap_setCell_other hyp, h.hp y hy]
      simp [E.cells, h2, h3, h4, hyp]
  · intro x hx
    obtain ⟨y, hy, h1, _⟩ := told_mem hx
    rw [h1]; exact h.zp y hy
  · rw [told_map _ _ _ (fun _ _ => rfl)]; exact h.nd
  · rw [told_map _ _ _ (fun _ _ => rfl)]; exact h.ndp
  · intro x hx
    obtain ⟨y, hy, _, h2, _⟩ := told_mem hx
    rw [h2]; exact h.sz y hy
  · rw [told_length]; exact h.len
  · rcases h.once with h1 | ⟨h1, h2⟩
    · exact Or.inl h1
    · refine Or.inr ⟨h1, ?_⟩
      have e1 : sorted (Ytofikcmjpecmoaa.told e.p L) = sorted L := by
        unfold sorted
        rw [told_map _ _ _ (fun _ _ => rfl)]
      rw [told_length, e1]
      refine ownsRow_same h2 (fun g hg => heap_setCell_other (fun e2 => ?_) _)
      obtain ⟨c, hc⟩ := ownsRow_elem h2 g hg
      rw [e2, hpe] at hc; simp at hc
end Go.Proofs.Ytofikcmjpecmoaa
