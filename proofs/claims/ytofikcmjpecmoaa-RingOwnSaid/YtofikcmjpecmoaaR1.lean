/- Ring: what of the world a call has turned; how a ring lies in memory; the laws of its map. No walk. -/
import Derived.Test.YtofikcmjpecmoaaProg
import Derived.Maps.Own
import Derived.Lib.Hide
namespace Go.Proofs.Ytofikcmjpecmoaa
open Go.RowKit Go.ChangeMaps Go.Maps Go.WideMaps
/-- of the old blocks only those in Z may have turned -/
structure Turn (Z : Nat → Prop) (w w' : World) : Prop where
  os : w'.os = w.os
  tape : w'.tape = w.tape
  output : w'.output = w.output
  size : w.heap.size ≤ w'.heap.size
  block : ∀ k, k < w.heap.size → ¬ Z k → w'.heap[k]? = w.heap[k]?
namespace Turn
variable {Z Y : Nat → Prop} {a w w' : World}
theorem refl (Z : Nat → Prop) (w : World) : Turn Z w w := ⟨rfl, rfl, rfl, Nat.le_refl _, fun _ _ _ => rfl⟩
theorem trans (h : Turn Z a w) (k : Turn Z w w') : Turn Z a w' :=
  ⟨k.os.trans h.os, k.tape.trans h.tape, k.output.trans h.output, Nat.le_trans h.size k.size, fun i hi hz => (k.block i (Nat.lt_of_lt_of_le hi h.size) hz).trans (h.block i hi hz)⟩
theorem mono (h : Turn Z w w') (hz : ∀ k, k < w.heap.size → Z k → Y k) : Turn Y w w' := ⟨h.os, h.tape, h.output, h.size, fun k hk hy => h.block k hk (fun z => hy (hz k hk z))⟩
theorem drew (h : Turn Z a w) : Turn Z a w.drew := ⟨h.os, h.tape, h.output, h.size, h.block⟩
theorem alloc (h : Turn Z a w) (o : Obj) : Turn Z a (w.alloc o) :=
  h.trans ⟨rfl, rfl, rfl, by simp, fun k hk _ => Below.heap_alloc _ _ _ hk⟩
theorem setCell (h : Turn Z a w) {p : Addr} (hp : Z p.block) (u : Value) : Turn Z a (w.setCell p u) :=
  h.trans ⟨rfl, rfl, rfl, by simp [World.setCell], fun k _ hz => Below.heap_setCell _ _ _ _ (fun e => hz (e ▸ hp))⟩
theorem setBlock (h : Turn Z a w) {b : Nat} (hb : Z b) (o : Obj) : Turn Z a (setBlock w b o) :=
  h.trans ⟨rfl, rfl, rfl, by simp [ChangeMaps.setBlock], fun k _ hz => by
    have : k ≠ b := fun e => hz (e ▸ hb)
    simp [ChangeMaps.setBlock, Ne.symm this]⟩
theorem grown {row : Option Nat} (h : Turn Z a w) (hg : w.grownBy w' row) (hr : ∀ k, row = some k → Z k) : Turn Z a w' :=
  h.trans ⟨hg.os, hg.tape, hg.output, hg.size, fun k hk hz => hg.block k hk (fun e => hz (hr k e.symm))⟩
theorem below (h : Turn Z a w) {B : Nat} (hb : Below B w w') (hz : ∀ k, k < w.heap.size → B ≤ k → Z k) : Turn Z a w' :=
  h.trans ⟨hb.os, hb.tape, hb.output, hb.size, fun k hk hnz => hb.block k (Nat.lt_of_not_le (fun e => hnz (hz k hk e)))⟩
theorem toBelow (h : Turn Z w w') {B : Nat} (hB : B ≤ w.heap.size) (hz : ∀ k, k < B → ¬ Z k) : Below B w w' :=
  ⟨h.os, h.tape, h.output, h.size, fun k hk => h.block k (by omega) (hz k hk)⟩
end Turn

/-- an entry of a ring: name, key, how often told, the block where it lies -/
structure E where
  nm : ByteArray
  key : ByteArray
  t : Int
  p : Nat
def E.entry (i : Nat) (e : E) : MapEntry := ⟨.string e.nm, .pointer (some ⟨e.p, 0, none⟩), i⟩
def ents (L : List E) : Array MapEntry := (L.zipIdx.map fun x => E.entry x.2 x.1).toArray
theorem ents_snoc (L : List E) (e : E) : ents (L ++ [e]) = (ents L).push (e.entry L.length) := by
  simp [ents, List.zipIdx_append]
theorem ents_mem {L : List E} {x : MapEntry} (h : x ∈ (ents L).toList) : ∃ e ∈ L, x.key = .string e.nm ∧ x.val = .pointer (some ⟨e.p, 0, none⟩) := by
  simp only [ents, List.mem_map] at h
  obtain ⟨⟨e, i⟩, he, rfl⟩ := h
  exact ⟨e, List.fst_mem_of_mem_zipIdx he, rfl, rfl⟩
theorem ents_has {L : List E} {e : E} (h : e ∈ L) : ∃ x ∈ (ents L).toList, x.key = .string e.nm := by
  obtain ⟨i, hi, rfl⟩ := List.getElem_of_mem h
  refine ⟨E.entry i L[i], ?_, rfl⟩
  simp only [ents, List.mem_map]
  exact ⟨(L[i], i), by simp [List.mem_zipIdx_iff_getElem?, List.getElem?_eq_getElem hi], rfl⟩
theorem klaw : Keyed Try.prog 9 := string_keyed Try.underlying9
theorem keys_read (L : List E) (hs : ∀ e ∈ L, e.nm.size ≤ maxLen) : ∀ x ∈ (ents L).toList, ∃ l, keyOf Try.prog 9 x.key = some l := by
  intro x hx
  obtain ⟨e, he, hk, _⟩ := ents_mem hx
  exact ⟨_, by rw [hk]; exact keyOf_string_mk Try.underlying9 (hs e he)⟩
/-- a look-up in the ring's map -/
theorem look_t (w : World) (m : Nat) (L : List E) (s : ByteArray) (hm : w.heap[m]? = some (.map (ents L) L.length)) (hs : ∀ e ∈ L, e.nm.size ≤ maxLen) (hl : s.size ≤ maxLen) :
    (∃ e ∈ L, e.nm = s ∧ (Instr.lookup 52 (.map (some m)) (.string s) false).run Try.prog w = .ok (.pointer (some ⟨e.p, 0, none⟩)) w) ∨
    ((∀ e ∈ L, e.nm ≠ s) ∧ (Instr.lookup 52 (.map (some m)) (.string s) false).run Try.prog w = .ok (.pointer none) w) := by
  have hkey := keyOf_string_mk Try.underlying9 hl
  rcases klaw.find w hkey (ents L).toList (keys_read L hs) with ⟨h1, h2⟩ | ⟨j, e0, h1, h2, h3⟩
  · refine Or.inr ⟨fun e he e1 => ?_, ?_⟩
    · obtain ⟨x, hx, hk⟩ := ents_has he
      exact h2 x hx (by rw [hk, e1])
    · simp [Instr.lookup, run_underlying Try.underlying52, MapKept.run_getObj_map hm, klaw.check w _ hkey, h1, Result.andThen]
  · obtain ⟨e, he, hk, hv⟩ := ents_mem (List.mem_of_getElem? h2)
    refine Or.inl ⟨e, he, ?_, ?_⟩
    · rw [hk] at h3
      exact Value.string.inj h3
    · rw [hv] at h1
      simp [Instr.lookup, run_underlying Try.underlying52, MapKept.run_getObj_map hm, klaw.check w _ hkey, h1, Result.andThen]
/-- a store at a new key -/
theorem upd_t (w : World) (m : Nat) (L : List E) (e : E) (hm : w.heap[m]? = some (.map (ents L) L.length)) (hs : ∀ e ∈ L, e.nm.size ≤ maxLen) (hl : e.nm.size ≤ maxLen) (hn : ∀ x ∈ L, x.nm ≠ e.nm) :
    (Instr.mapUpdate 52 (.map (some m)) (.string e.nm) (.pointer (some ⟨e.p, 0, none⟩))).run Try.prog w = .ok () (setBlock w m (.map (ents (L ++ [e])) (L ++ [e]).length)) := by
  have hkey := keyOf_string_mk Try.underlying9 hl
  rcases klaw.find w hkey (ents L).toList (keys_read L hs) with ⟨h1, h2⟩ | ⟨j, e0, h1, h2, h3⟩
  · rw [ents_snoc]
    simp [Instr.mapUpdate, run_underlying Try.underlying52, MapKept.run_getObj_map hm, klaw.check w false hkey, h1, MapKept.run_setObj_map _ hm, Result.andThen, setBlock, E.entry]
  · exfalso
    obtain ⟨x, hx, hk, _⟩ := ents_mem (List.mem_of_getElem? h2)
    rw [hk] at h3
    exact hn x hx (Value.string.inj h3)
end Go.Proofs.Ytofikcmjpecmoaa
