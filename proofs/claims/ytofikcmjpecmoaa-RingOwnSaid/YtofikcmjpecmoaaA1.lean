/- Ring: the relation 'a ring of these entries, told so often, lies there', and each method by it. -/
import Derived.Test.YtofikcmjpecmoaaW9
namespace Go.Proofs.Ytofikcmjpecmoaa
open Go.RowKit Go.ChangeMaps Go.Maps Go.WideMaps
def kvs (L : List E) : List KV := L.map fun e => (e.nm, e.key)
/-- the place of a name -/
def fnd (l : List KV) (s : ByteArray) : Option Nat := l.findIdx? fun e => decide (e.1.data.toList = s.data.toList)
def upd (T : Nat → Int) (i : Nat) : Nat → Int := fun j => if j = i then bump (T j) else T j
def srt (l : List KV) : List ByteArray := ((l.map fun e => e.1.data.toList).mergeSort fun x y => decide (x ≤ y)).map fun x => ⟨x.toArray⟩
def RingAt (w : World) (Z : Nat → Prop) (r : Nat) (l : List KV) (T : Nat → Int) : Prop :=
  ∃ m va dn vn L, kvs L = l ∧ (∀ i (h : i < L.length), L[i].t = T i) ∧ RingIn w Z r m va dn vn L
theorem kvs_length (L : List E) : (kvs L).length = L.length := by simp [kvs]
theorem sb_srt (L : List E) : sb L = srt (kvs L) := by simp [sb, srt, sorted, kvs, Function.comp_def]
theorem fnd_some {l : List KV} {s : ByteArray} {i : Nat} (h : fnd l s = some i) : ∃ hi : i < l.length, l[i].1 = s := by
  unfold fnd at h
  rw [List.findIdx?_eq_some_iff_getElem] at h
  obtain ⟨hi, h1, _⟩ := h
  exact ⟨hi, ba_ext (of_decide_eq_true h1)⟩
theorem fnd_none {l : List KV} {s : ByteArray} (h : fnd l s = none) : ∀ e ∈ l, e.1 ≠ s := by
  unfold fnd at h
  rw [List.findIdx?_eq_none_iff] at h
  intro e he e1
  have := h e he
  simp [e1] at this
section
variable {w w' : World} {Z Y : Nat → Prop} {r : Nat} {l : List KV} {T : Nat → Int}
theorem RingAt.turn (h : RingAt w Z r l T) (ht : Turn Y w w') (hd : ∀ k, k < w.heap.size → Z k → ¬ Y k) : RingAt w' Z r l T := by
  obtain ⟨m, va, dn, vn, L, h1, h2, h3⟩ := h
  exact ⟨m, va, dn, vn, L, h1, h2, h3.turn ht hd⟩
theorem RingAt.shrink (h : RingAt w Z r l T) (hz : ∀ k, k < w.heap.size → Z k → Y k) : RingAt w Y r l T := by
  obtain ⟨m, va, dn, vn, L, h1, h2, h3⟩ := h
  exact ⟨m, va, dn, vn, L, h1, h2, h3.shrink hz⟩
theorem RingAt.len (h : RingAt w Z r l T) : l.length ≤ 64 := by
  obtain ⟨m, va, dn, vn, L, h1, h2, h3⟩ := h
  rw [← h1, kvs_length]; exact h3.len
theorem RingAt.lt (h : RingAt w Z r l T) : r < w.heap.size ∧ Z r := by
  obtain ⟨m, va, dn, vn, L, h1, h2, h3⟩ := h
  exact ⟨(Array.getElem?_eq_some_iff.1 h3.hr).1, h3.zr⟩
theorem at_find_some (h : RingAt w Z r l T) (s : ByteArray) (hs : s.size ≤ maxLen) (i : Nat) (hi : i < l.length) (hf : fnd l s = some i) :
    Calls Try.prog 14 #[.pointer (some ⟨r, 0, none⟩), .string s] w fun x w' => x = .returned (.tuple #[.string l[i].2, .int .i64 0]) ∧ RingAt w' Z r l (upd T i) ∧ Turn Z w w' := by
  obtain ⟨m, va, dn, vn, L, h1, h2, h3⟩ := h
  subst h1
  obtain ⟨_, h4⟩ := fnd_some hf
  have hiL : i < L.length := by rw [← kvs_length]; exact hi
  have e1 : (kvs L)[i] = (L[i].nm, L[i].key) := by simp [kvs]
  rw [e1] at h4 ⊢
  have hmem : L[i] ∈ L := List.getElem_mem hiL
  refine (find_hit h3 s hs L[i] hmem h4).mono ?_
  rintro x w' ⟨rfl, rfl⟩
  refine ⟨rfl, ⟨m, va, dn, vn, told L[i].p L, told_map _ _ _ (fun _ _ => rfl), ?_, h3.told hmem⟩, (Turn.refl Z w).setCell (h3.zp _ hmem) _⟩
  intro j hj
  have hjL : j < L.length := by rw [told_length] at hj; exact hj
  have e2 : (told L[i].p L)[j] = if L[j].p = L[i].p then { L[j] with t := bump L[j].t } else L[j] := by simp [told]
  rw [e2]
  unfold upd
  by_cases hji : j = i
  · subst hji; simp [h2 j hjL]
  · have hne : L[j].p ≠ L[i].p := fun e3 => by
      have := h3.ndp
      have h5 := (List.nodup_iff_pairwise_ne.1 this)
      rw [List.pairwise_iff_getElem] at h5
      rcases Nat.lt_or_gt_of_ne hji with hlt | hlt
      · exact h5 j i (by simpa using hjL) (by simpa using hiL) hlt (by simpa using e3)
      · exact h5 i j (by simpa using hiL) (by simpa using hjL) hlt (by simpa using e3.symm)
    rw [if_neg hne, if_neg hji]
    exact h2 j hjL
theorem none_of {L : List E} {s : ByteArray} (hf : fnd (kvs L) s = none) : ∀ e ∈ L, e.nm ≠ s := fun e he => fnd_none hf (e.nm, e.key) (List.mem_map.2 ⟨e, he, rfl⟩)
theorem at_find_none (h : RingAt w Z r l T) (s : ByteArray) (hs : s.size ≤ maxLen) (hf : fnd l s = none) :
    Calls Try.prog 14 #[.pointer (some ⟨r, 0, none⟩), .string s] w fun x w' => x = .returned (.tuple #[.string ⟨#[]⟩, .int .i64 12]) ∧ w' = w := by
  obtain ⟨m, va, dn, vn, L, h1, h2, h3⟩ := h
  subst h1
  exact find_miss h3 s hs (none_of hf)
theorem at_has_some (h : RingAt w Z r l T) (s : ByteArray) (hs : s.size ≤ maxLen) (i : Nat) (hf : fnd l s = some i) :
    Calls Try.prog 16 #[.pointer (some ⟨r, 0, none⟩), .string s] w fun x w' => x = .returned (.bool true) ∧ w' = w := by
  obtain ⟨m, va, dn, vn, L, h1, h2, h3⟩ := h
  subst h1
  obtain ⟨hi, h4⟩ := fnd_some hf
  have hiL : i < L.length := by rw [← kvs_length]; exact hi
  have e1 : (kvs L)[i] = (L[i].nm, L[i].key) := by simp [kvs]
  rw [e1] at h4
  exact has_hit h3 s hs L[i] (List.getElem_mem hiL) h4
theorem at_has_none (h : RingAt w Z r l T) (s : ByteArray) (hs : s.size ≤ maxLen) (hf : fnd l s = none) :
    Calls Try.prog 16 #[.pointer (some ⟨r, 0, none⟩), .string s] w fun x w' => x = .returned (.bool false) ∧ w' = w := by
  obtain ⟨m, va, dn, vn, L, h1, h2, h3⟩ := h
  subst h1
  exact has_miss h3 s hs (none_of hf)
theorem at_uses_some (h : RingAt w Z r l T) (s : ByteArray) (hs : s.size ≤ maxLen) (i : Nat) (hf : fnd l s = some i) (ht : IntKind.i64.wrap (T i) = T i) :
    Calls Try.prog 20 #[.pointer (some ⟨r, 0, none⟩), .string s] w fun x w' => x = .returned (.int .i64 (T i)) ∧ w' = w := by
  obtain ⟨m, va, dn, vn, L, h1, h2, h3⟩ := h
  subst h1
  obtain ⟨hi, h4⟩ := fnd_some hf
  have hiL : i < L.length := by rw [← kvs_length]; exact hi
  have e1 : (kvs L)[i] = (L[i].nm, L[i].key) := by simp [kvs]
  rw [e1] at h4
  have := uses_hit h3 s hs L[i] (List.getElem_mem hiL) h4 (by rw [h2 i hiL]; exact ht)
  rw [h2 i hiL] at this
  exact this
theorem at_uses_none (h : RingAt w Z r l T) (s : ByteArray) (hs : s.size ≤ maxLen) (hf : fnd l s = none) :
    Calls Try.prog 20 #[.pointer (some ⟨r, 0, none⟩), .string s] w fun x w' => x = .returned (.int .i64 0) ∧ w' = w := by
  obtain ⟨m, va, dn, vn, L, h1, h2, h3⟩ := h
  subst h1
  exact uses_miss h3 s hs (none_of hf)
theorem at_only_other (h : RingAt w Z r l T) (hl : l.length ≠ 1) :
    Calls Try.prog 18 #[.pointer (some ⟨r, 0, none⟩)] w fun x w' => x = .returned (.tuple #[.string ⟨#[]⟩, .string ⟨#[]⟩, .int .i64 12]) ∧ w' = w := by
  obtain ⟨m, va, dn, vn, L, h1, h2, h3⟩ := h
  subst h1
  exact only_other h3 (by rw [← kvs_length]; exact hl)
theorem at_only_one {e : KV} (h : RingAt w Z r [e] T) :
    Calls Try.prog 18 #[.pointer (some ⟨r, 0, none⟩)] w fun x w' => x = .returned (.tuple #[.string e.1, .string e.2, .int .i64 0]) ∧ RingAt w' Z r [e] (upd T 0) ∧ Turn Z w w' := by
  obtain ⟨m, va, dn, vn, L, h1, h2, h3⟩ := h
  obtain ⟨x, rfl⟩ : ∃ x, L = [x] := by
    have : L.length = 1 := by rw [← kvs_length, h1]; rfl
    exact List.length_eq_one_iff.1 this
  have h4 : (x.nm, x.key) = e := by simpa [kvs] using h1
  subst h4
  refine (only_one x h3).mono ?_
  rintro y w' ⟨rfl, n, rfl⟩
  have h5 := h3.told (e := x) (by simp)
  have ht := (Turn.refl Z w).setCell (p := ⟨x.p, 2, none⟩) (h3.zp x (by simp)) (.int .i64 (bump x.t))
  refine ⟨rfl, ⟨m, va, dn, vn, told x.p [x], told_map _ _ _ (fun _ _ => rfl), ?_, h5.same (fun _ _ _ => rfl)⟩, ⟨ht.os, ht.tape, ht.output, ht.size, ht.block⟩⟩
  intro i hi
  have : i = 0 := by simp [told] at hi; exact hi
  subst this
  have := h2 0 (by simp)
  simp at this
  simp [told, upd, this]
theorem at_names (h : RingAt w Z r l T) (hz : ∀ k, w.heap.size ≤ k → Z k) :
    Calls Try.prog 12 #[.pointer (some ⟨r, 0, none⟩)] w fun x w' => ∃ v B, x = .returned v ∧ w.heap.size ≤ B ∧ w'.ownsRow B 9 1 v l.length ((srt l).map Value.string) ∧
      RingAt w' (fun k => Z k ∧ k < B) r l T ∧ Turn Z w w' := by
  obtain ⟨m, va, dn, vn, L, h1, h2, h3⟩ := h
  subst h1
  refine (names_t h3 hz).mono ?_
  rintro x w' ⟨v, vn', B, rfl, hB, ho, hr, ht⟩
  rw [sb_srt] at ho
  rw [kvs_length]
  exact ⟨v, B, rfl, hB, ho, ⟨m, va, 1, vn', L, rfl, h2, hr⟩, ht⟩
theorem at_new (w : World) (v : Value) (l : List KV) (hl : Lies w v l) :
    Calls Try.prog 7 #[v] w fun x w' => Below w.heap.size w w' ∧ ((newCode l = 0 ∧ ∃ r, x = .returned (.tuple #[.pointer (some ⟨r, 0, none⟩), .int .i64 0]) ∧ RingAt w' (fun k => w.heap.size ≤ k) r l (fun _ => 0)) ∨
      (newCode l ≠ 0 ∧ x = .returned (.tuple #[.pointer none, .int .i64 (newCode l)]))) := by
  refine (new_t w v l hl).mono ?_
  rintro x w' ⟨hb, ⟨h0, r, m, va, L, rfl, hr, ha⟩ | ⟨h0, rfl⟩⟩
  · refine ⟨hb, Or.inl ⟨h0, r, rfl, m, va, 0, _, L, ?_, ?_, hr⟩⟩
    · have := congrArg (List.map fun t : ByteArray × ByteArray × Int => (t.1, t.2.1)) ha
      simpa [abs, fresh, kvs, Function.comp_def] using this
    · intro i hi
      have h1 : (abs L)[i]? = (fresh l)[i]? := by rw [ha]
      have h2 : i < l.length := by
        have := congrArg List.length ha
        simp [abs, fresh] at this
        omega
      simp only [abs, fresh, List.getElem?_map, List.getElem?_eq_getElem hi, List.getElem?_eq_getElem h2, Option.map_some, Option.some.injEq, Prod.mk.injEq] at h1
      exact h1.2.2
  · exact ⟨hb, Or.inr ⟨h0, rfl⟩⟩
end
end Go.Proofs.Ytofikcmjpecmoaa
