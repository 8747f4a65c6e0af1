/- Ring: sort, over this dump (the library's sort by its contract). -/
import Derived.Test.YtofikcmjpecmoaaW5
import Derived.Test.YtofikcmjpecmoaaShelf
import Derived.Sort.OwnSorted
import Derived.Deep.AppendLies
import Derived.Deep.RegionLaw
namespace Go.Proofs.Ytofikcmjpecmoaa
open Go.RowKit Go.ChangeMaps Go.Maps Go.WideMaps
theorem infoStr : (Try.prog.info? 9).map (fun i => (i.zero, i.size, i.bytes)) = some (some (.string ⟨#[]⟩), 1, 16) := by kernel_rfl
def nmv (L : List E) : List Value := L.map fun e => .string e.nm
theorem nmv_enc (L : List E) : nmv L = (L.map fun e => e.nm.data.toList).map encStr := by
  simp [nmv, encStr]
theorem sorted_length (L : List E) : (sorted L).length = L.length := by simp [sorted]
theorem grown_keeps {w w1 : World} {row : Option Nat} {r : Nat} {o o' : Obj} (hg : ((w.alloc o').drew).grownBy w1 row) (hr : w.heap[r]? = some o) (hne : some r ≠ row) : w1.heap[r]? = some o := by
  have hlt : r < w.heap.size := (Array.getElem?_eq_some_iff.1 hr).1
  refine (hg.block r (by show r < (w.heap.push o').size; simp; omega) hne).trans ?_
  show (w.heap.push o')[r]? = _
  rw [Array.getElem?_push, if_neg (by omega)]; exact hr
theorem ownsRow_set_aside {w : World} {base : Nat} {e : TypeId} {size : Nat} {v : Value} {n : Nat} {xs : List Value} (h : w.ownsRow base e size v n xs) {r j : Nat} (hne : some r ≠ v.ownBlock) {u : Value} : (w.setCell ⟨r, j, none⟩ u).ownsRow base e size v n xs := by
  refine ⟨h.1, ?_⟩
  rcases h.2 with h2 | ⟨g, cap, cur, rfl, hb, hg, rest⟩
  · exact Or.inl h2
  · exact Or.inr ⟨g, cap, cur, rfl, hb, by rw [heap_setCell_other (fun e1 => hne (by rw [← e1]; rfl))]; exact hg, rest⟩
set_option maxRecDepth 100000 in
theorem sort_t (w : World) (r : Nat) (c0 c2 c3 c4 va : Value) (L : List E) (hr : w.heap[r]? = some (.cells #[c0, va, c2, c3, c4, .slice none 0 0] 67 (0, 0)))
    (ha : w.ownsRow 0 68 1 va L.length (ptrs L)) (hp : ∀ e ∈ L, w.heap[e.p]? = some (.cells e.cells 73 (0, 0))) (len : L.length ≤ 64) :
    Calls Try.prog 23 #[.pointer (some ⟨r, 0, none⟩)] w fun e w' => e = .returned (.tuple #[]) ∧ ∃ vn, w'.heap[r]? = some (.cells #[c0, va, c2, c3, c4, vn] 67 (0, 0)) ∧
      w'.ownsRow w.heap.size 9 1 vn L.length (strs (sorted L)) ∧ Turn (fun k => k = r ∨ w.heap.size ≤ k) w w' := by
  obtain ⟨i0, hi, hz0, hz1, hz2⟩ := info_parts infoStr
  have hlt : ∀ {k : Nat} {o : Obj}, w.heap[k]? = some o → k < w.heap.size := fun hh => (Array.getElem?_eq_some_iff.1 hh).1
  have hrlt := hlt hr
  have hva : ∃ a cap, va = .slice a L.length cap ∧ ∀ k (hk : k < L.length), ∃ g, a = some ⟨g, 0, none⟩ ∧ g ≠ r ∧ g < w.heap.size ∧ w.cell? ⟨g, k, none⟩ = some (.pointer (some ⟨L[k].p, 0, none⟩)) := by
    rcases Nat.eq_zero_or_pos L.length with h0 | hpos
    · rcases ha.2 with ⟨rfl, _⟩ | ⟨g, cap, cur, rfl, _⟩
      · exact ⟨none, 0, by rw [h0], fun k hk => by omega⟩
      · exact ⟨_, _, rfl, fun k hk => by omega⟩
    · obtain ⟨g, cap, rfl, hob, hg⟩ := ownsRow_cell ha hpos
      obtain ⟨cur, hcur⟩ := ownsRow_elem ha g hob
      refine ⟨_, _, rfl, fun k hk => ⟨g, rfl, ?_, hlt hcur, hg k _ (by simp [ptrs, hk])⟩⟩
      rintro rfl
      rw [hr] at hcur
      simp at hcur
  obtain ⟨a, cap, rfl, hcell⟩ := hva
  have r1 : w.cell? ⟨r, 1, none⟩ = some (.slice a L.length cap) := cell_of hr rfl
  have HR := Lib.hid hr
  have HP := Lib.hid hp
  have HC := Lib.hid hcell
  have HI := Lib.hid hi
  have HZ0 := Lib.hid hz0
  have HZ1 := Lib.hid hz1
  have HZ2 := Lib.hid hz2
  have HLT := Lib.hid hrlt
  clear hr hp hcell hi hz0 hz1 hz2 ha hrlt
  obtain ⟨n, hn⟩ : ∃ n, n = L.length := ⟨_, rfl⟩
  have HN := Lib.hid hn
  rw [← hn] at r1 len ⊢
  clear hn
  go_enter Try.func23, Try.ntmps23
  go_wp2
  go_loopw [9] (fun v9 wr => ∃ (k : Nat) (u : Value), v9 = .int .i64 (k : Nat) ∧ k ≤ n ∧ wr.heap[r]? = some (.cells #[c0, .slice a n cap, c2, c3, c4, u] 67 (0, 0)) ∧
      wr.ownsRow w.heap.size 9 1 u k (nmv (L.take k)) ∧ Turn (fun k => k = r ∨ w.heap.size ≤ k) w wr) (fun v9 _ => n - (intOf v9).toNat)
  case atStart => exact ⟨0, _, rfl, Nat.zero_le _, HN.out ▸ HR.out, World.ownsRow_nil _ _ _ _, Turn.refl _ _⟩
  case round =>
    obtain ⟨k, u, rfl, hk, hrr, hou, htu⟩ := hrel
    have HK := Lib.hid hk
    have HO := Lib.hid hou
    have HT := Lib.hid htu
    have HRR := Lib.hid hrr
    have hsz : w.heap.size ≤ wr.heap.size := htu.size
    by_cases hlt : k < n
    · have hkL : k < L.length := by rw [← HN.out]; exact hlt
      have t1 : decide ((k : Int) < (n : Int)) = true := decide_eq_true (by omega)
      obtain ⟨g, rfl, hgr, hgl, hgc⟩ := HC.out k hkL
      obtain ⟨e, he⟩ : ∃ e, e = L[k] := ⟨_, rfl⟩
      have hmem : e ∈ L := by rw [he]; exact List.getElem_mem hkL
      have H1 := Lib.hid (show nmv (L.take (k + 1)) = nmv (L.take k) ++ [.string e.nm] by
        rw [List.take_succ_eq_append_getElem hkL, nmv, List.map_append, ← he]; rfl)
      rw [← he] at hgc
      have hpe := HP.out e hmem
      have hel : e.p < w.heap.size := (Array.getElem?_eq_some_iff.1 hpe).1
      have hepr : e.p ≠ r := by
        rintro e1
        have := HR.out
        rw [← e1, hpe] at this
        simp at this
      have k1 : wr.cell? ⟨g, k, none⟩ = some (.pointer (some ⟨e.p, 0, none⟩)) :=
        (World.cell?_of_block (htu.block g hgl (fun h => by rcases h with h | h; exact hgr h; omega))).trans hgc
      have k2 : wr.cell? ⟨e.p, 0, none⟩ = some (.string e.nm) :=
        (World.cell?_of_block (htu.block e.p hel (fun h => by rcases h with h | h; exact hepr h; omega))).trans (cell_of hpe rfl)
      have k3 : wr.cell? ⟨r, 5, none⟩ = some u := cell_of hrr rfl
      have k4 : wr.frozen? ⟨r, 5, none⟩ = false := frozen_of hrr
      have k5 : (wr.alloc (.cells #[.string e.nm] 9)).cell? ⟨r, 5, none⟩ = some u :=
        (World.cell?_of_block (Below.heap_alloc wr _ r (Nat.lt_of_lt_of_le HLT.out hsz))).trans k3
      have HS := Lib.hid hsz
      have HL := Lib.hid hlt
      have HX := Lib.hid (And.intro hmem (And.intro hpe (And.intro hel hepr)))
      have HLEN := Lib.hid len
      clear he
      clear hk hou htu hrr hsz hlt hmem hpe hel hepr hkL hgl hgr hgc len
      go_wp2
      go_region_law ((refine step_append_lies _ rfl (.tmp 17) (.tmp 23) 33 rfl w.heap.size 9 i0 (.string ⟨#[]⟩) 1 16 Try.underlying33 HI.out HZ0.out HZ1.out HZ2.out rfl (by decide) u k _ rfl ((HO.out.alloc _).drew) ⟨wr.heap.size, 0, none⟩ 1 1 [.string e.nm] rfl rfl (by exact cell_one_new _ _ _) (by simp [Value.oneCell']) (by decide) (by have := HL.out; have := HLEN.out; unfold maxLen; omega) (by have := HL.out; have := HLEN.out; omega) (by have := HS.out; simp; omega) _ rfl ?_; intro g1 cap1 w1 hown1 hgrow _ _; have hr1 := grown_keeps hgrow HRR.out (fun e1 => by have := (HO.out.lt r e1.symm).1; have := HLT.out; omega); have c5 := cell_of (j := 5) hr1 rfl; have f5 := frozen_of (j := 5) hr1; have HR1 := Lib.hid hr1; have HO1 := Lib.hid hown1; have HG := Lib.hid hgrow; clear hown1 hgrow hr1))
      all_goals
        have hlt := HL.out
        have len := HLEN.out
        go_wp2
        refine ⟨⟨k + 1, .slice (some ⟨g1, 0, none⟩) (k + 1) cap1, by go_num, by omega, ?_, ?_, ?_⟩, by simp [intOf]; omega⟩
        · rw [heap_setCell_same HR1.out]; rfl
        · rw [H1.out]
          exact ownsRow_set_aside HO1.out (fun e1 => by have := (HO1.out.lt r e1.symm).1; have := HLT.out; omega)
        · exact (((HT.out.alloc _).drew).grown HG.out (fun g hg => Or.inr (HO.out.lt g hg).1)).setCell (Or.inl rfl) _
    · obtain rfl : k = n := by omega
      have t1 : decide ((k : Int) < (k : Int)) = false := decide_eq_false (by omega)
      have k3 : wr.cell? ⟨r, 5, none⟩ = some u := cell_of hrr rfl
      have H2 := Lib.hid (show nmv (L.take k) = (L.map fun e => e.nm.data.toList).map encStr by rw [HN.out, List.take_length, nmv_enc])
      rcases Nat.eq_zero_or_pos k with h0 | hpos
      · obtain rfl : L = [] := List.length_eq_zero_iff.1 (HN.out.symm.trans h0)
        subst h0
        obtain ⟨a1, cp, rfl⟩ : ∃ a1 cp, u = .slice a1 0 cp := by
          rcases hou.2 with ⟨rfl, _⟩ | ⟨g, cp, cur, rfl, _⟩
          · exact ⟨_, _, rfl⟩
          · exact ⟨_, _, rfl⟩
        clear hk hou htu hrr hsz hlt
        go_wp2_with (go_at_call 29; refine (Try.slices_Sort_string_none _ _ _).mono ?_; rintro e1 w1 ⟨rfl, rfl⟩)
        go_end0
        refine ⟨rfl, _, HRR.out, ?_, HT.out⟩
        have := HO.out
        simpa [strs, sorted, nmv] using this
      · obtain ⟨ss, hss⟩ : ∃ ss, ss = L.map fun e => e.nm.data.toList := ⟨_, rfl⟩
        have hl : ss.length = k := by rw [hss, List.length_map]; exact HN.out.symm
        have hrow : wr.ownsRow w.heap.size 9 1 u k (ss.map encStr) := by rw [hss, ← H2.out]; exact hou
        rcases hrow.2 with ⟨_, h0⟩ | ⟨g, cp, cur, rfl, hbase, hb, h1, h2, h3, h4⟩
        · omega
        have hc := Try.slices_Sort_string g 0 cp ss wr (holds_of_block hb (by rw [hl]; simpa using h4)) (Array.getElem?_eq_some_iff.1 hb).1 (by omega)
        rw [hl] at hc
        have HB := Lib.hid (And.intro hbase (And.intro hb (And.intro h1 (And.intro h2 h3))))
        have HSS := Lib.hid (And.intro hss hl)
        clear hk hou htu hrr hsz hlt hbase hb h1 h2 h3 h4 hrow hss hl
        go_wp2_with (go_at_call 29; refine hc.mono ?_; rintro e1 w1 ⟨rfl, nn, os, rfl⟩)
        go_end0
        obtain ⟨hss, hl⟩ := HSS.out
        obtain ⟨hbase, hb, h1, h2, h3⟩ := HB.out
        have hlt := HLT.out
        have hsz := HT.out.size
        refine ⟨rfl, _, ((grownBy_sorted _).block r (by omega) (fun e1 => ?_)).trans HRR.out, ?_, HT.out.grown (grownBy_sorted _) (fun j hj => by cases hj; exact Or.inr hbase)⟩
        · cases e1; omega
        · have h5 := ownsRow_sorted (n := nn) (os := os) (ss := ss) (ts := ss.mergeSort fun x y => decide (x ≤ y)) (by simp) hbase hb (by omega) h2 h3
          rw [hl] at h5
          have h6 : strs (sorted L) = (ss.mergeSort fun x y => decide (x ≤ y)).map encStr := by rw [hss]; rfl
          rw [h6]
          exact h5
end Go.Proofs.Ytofikcmjpecmoaa
