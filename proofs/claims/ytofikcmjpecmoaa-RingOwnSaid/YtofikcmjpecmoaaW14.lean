/- copied, over this dump. -/
import Derived.Test.YtofikcmjpecmoaaW13
namespace Go.Proofs.Ytofikcmjpecmoaa
open Go.RowKit Go.ChangeMaps Go.Maps Go.WideMaps
theorem Lies.row {w : World} {v : Value} {l : List KV} (h : Lies w v l) (hn : 0 < l.length) : ∃ b off cap, v = .slice (some ⟨b, off, none⟩) l.length cap ∧ b < w.heap.size ∧ ∀ j u, (flat l)[j]? = some u → w.cell? ((⟨b, off, none⟩ : Addr).add j) = some u := by
  obtain ⟨a, cap, rfl, hc⟩ := h
  obtain ⟨b, off, rfl, hb, _⟩ := hc 0 hn
  refine ⟨b, off, cap, rfl, hb, fun j u hj => ?_⟩
  have hjl : j < (flat l).length := (List.getElem?_eq_some_iff.1 hj).1
  rw [flat_length] at hjl
  have hi : j / 2 < l.length := by omega
  obtain ⟨b2, off2, e1, _, d0, d1⟩ := hc (j / 2) hi
  obtain ⟨rfl, rfl⟩ : b = b2 ∧ off = off2 := by
    have := Option.some.inj e1
    simp at this
    exact this
  have hadd : (⟨b, off, none⟩ : Addr).add j = ⟨b, off + j, none⟩ := by unfold Addr.add; split <;> simp_all
  rw [hadd]
  rcases Nat.mod_two_eq_zero_or_one j with h2 | h2
  · have e2 : j / 2 * 2 = j := by omega
    have := (flat_get l (j / 2) hi).1
    rw [e2] at this d0
    rw [hj] at this
    rw [Option.some.inj this]; exact d0
  · have e2 : j / 2 * 2 + 1 = j := by omega
    have := (flat_get l (j / 2) hi).2
    rw [e2] at this
    rw [hj] at this
    rw [Option.some.inj this]
    have e3 : off + j = off + j / 2 * 2 + 1 := by omega
    rw [e3]; exact d1
theorem flat_one (l : List KV) : ∀ u ∈ flat l, u.oneCell' = true := by
  intro u hu
  simp only [flat, List.mem_flatMap, List.mem_cons, List.not_mem_nil, or_false] at hu
  obtain ⟨e, _, rfl | rfl⟩ := hu <;> rfl
set_option maxRecDepth 100000 in
theorem copied_t (w : World) (v : Value) (l : List KV) (h : Lies w v l) (hbig : l.length * 32 ≤ 140737488355328) :
    Calls Try.prog 8 #[v] w fun y w' => ∃ v', y = .returned v' ∧ w'.ownsRow w.heap.size 37 2 v' l.length (flat l) ∧ Below w.heap.size w w' := by
  obtain ⟨i0, hi, hz0, hz1, hz2⟩ := info_parts info37
  have hmade := World.ownsRow_made (base := w.heap.size) (e := 37) (size := 2) w #[] 0 (Nat.le_refl _) (by decide) rfl
  have HM := Lib.hid hmade
  have HI := Lib.hid (And.intro hi (And.intro hz0 (And.intro hz1 hz2)))
  rcases Nat.eq_zero_or_pos l.length with h0 | hpos
  · obtain rfl : l = [] := List.length_eq_zero_iff.1 h0
    obtain ⟨a, cap, rfl, _⟩ := h
    clear hmade hi hz0 hz1 hz2
    cases a with
    | none =>
      go_enter Try.func8, Try.ntmps8
      go_wp2
      go_ret
      exact ⟨_, rfl, HM.out, (Below.refl w.heap.size w).alloc (Nat.le_refl _) _⟩
    | some ad =>
      go_enter Try.func8, Try.ntmps8
      go_wp2
      go_ret
      exact ⟨_, rfl, HM.out, (Below.refl w.heap.size w).alloc (Nat.le_refl _) _⟩
  · obtain ⟨b, off, cap, rfl, hb, hc⟩ := h.row hpos
    have hc' : ∀ j u, (flat l)[j]? = some u → (w.alloc (.cells #[] 37)).cell? ((⟨b, off, none⟩ : Addr).add j) = some u := fun j u hj => by
      have hadd : ((⟨b, off, none⟩ : Addr).add j).block = b := by unfold Addr.add; split <;> rfl
      exact (World.cell?_of_block (Below.heap_alloc w _ _ (by rw [hadd]; exact hb))).trans (hc j u hj)
    have HC := Lib.hid hc'
    have HP := Lib.hid (And.intro hpos hbig)
    obtain ⟨n, hn⟩ : ∃ n, n = l.length := ⟨_, rfl⟩
    have HN := Lib.hid hn
    rw [← hn]
    clear hmade hi hz0 hz1 hz2 hc hc' hpos hbig hn h
    go_enter Try.func8, Try.ntmps8
    go_wp2_with (first | (at_builtin; refine wpList_append_lies _ rfl (.tmp 3) (.tmp 4) 22 rfl w.heap.size 37 i0 (.agg #[.string ⟨#[]⟩, .string ⟨#[]⟩]) 2 32 Try.underlying22 HI.out.1 HI.out.2.1 HI.out.2.2.1 HI.out.2.2.2 rfl (by decide) (.slice (some ⟨w.heap.size, 0, none⟩) 0 0) 0 [] rfl HM.out ⟨b, off, none⟩ n cap (flat l) rfl (by rw [flat_length, HN.out]) HC.out (flat_one l) (by rw [HN.out]; exact HP.out.1) (by have := HP.out.2; have := HN.out; unfold maxLen; omega) (by have := HP.out.2; have := HN.out; omega) (by simp) _ rfl ?_; intro g1 cap1 w1 hown1 hgrow1 hat1 hlt1; have HO1 := Lib.hid hown1; have HG1 := Lib.hid hgrow1; clear hown1 hgrow1 hat1 hlt1) | go_in)
    go_ret
    have h1 := HO1.out
    rw [List.nil_append, Nat.zero_add] at h1
    refine ⟨_, rfl, ?_, ((Below.refl w.heap.size w).alloc (Nat.le_refl _) _).grown HG1.out (by simp) (fun j hj => by cases hj; exact Nat.le_refl _)⟩
    simpa using h1
end Go.Proofs.Ytofikcmjpecmoaa
