/- ref.Names, over this dump. -/
import Derived.Test.YtofikcmjpecmoaaW12
namespace Go.Proofs.Ytofikcmjpecmoaa
open Go.RowKit Go.ChangeMaps Go.Maps Go.WideMaps
/-- the list with x at place p -/
def put (A : List (List UInt8)) (x : List UInt8) (p : Nat) : List (List UInt8) := A.take p ++ x :: A.drop p
theorem put_length (A : List (List UInt8)) (x : List UInt8) (p : Nat) : (put A x p).length = A.length + 1 := by
  simp [put]; omega
theorem put_end (A : List (List UInt8)) (x : List UInt8) (k : Nat) (h : A.length = k) : put A x k = A ++ [x] := by
  simp [put, ← h]
theorem enc_nm (nm : ByteArray) : encStr nm.data.toList = .string nm := by simp [encStr]
theorem put_get_before (A : List (List UInt8)) (x : List UInt8) (q : Nat) (h : q < A.length) : ((put A x (q + 1)).map encStr)[q]? = some (.string ⟨A[q].toArray⟩) := by
  rw [List.getElem?_map, put, List.getElem?_append_left (by rw [List.length_take]; omega), List.getElem?_take_of_lt (by omega), List.getElem?_eq_getElem h]; rfl
theorem put_get_at (A : List (List UInt8)) (x : List UInt8) (p : Nat) (h : p ≤ A.length) : ((put A x p).map encStr)[p]? = some (encStr x) := by
  rw [List.getElem?_map, put, List.getElem?_append_right (by rw [List.length_take]; omega), List.length_take, Nat.min_eq_left h]; simp
theorem cell_row {w : World} {base : Nat} {e : TypeId} {size : Nat} {v : Value} {n : Nat} {xs : List Value} (h : w.ownsRow base e size v n xs) {g : Nat} (hg : v.ownBlock = some g) {i : Nat} {u : Value} (hi : xs[i]? = some u) : w.cell? ⟨g, i, none⟩ = some u := by
  have := h.cells hg i u hi
  rcases Nat.eq_zero_or_pos i with rfl | hj0
  · simpa [Addr.add] using this
  · simpa [Addr.add, Nat.ne_of_gt hj0] using this
theorem put_swap (A : List (List UInt8)) (nm : ByteArray) (q : Nat) (h : q < A.length) :
    (((put A nm.data.toList (q + 1)).map encStr).set q (.string nm)).set (q + 1) (.string ⟨A[q].toArray⟩) = (put A nm.data.toList q).map encStr := by
  apply List.ext_getElem?
  intro j
  have hl : ((put A nm.data.toList (q + 1)).map encStr).length = A.length + 1 := by rw [List.length_map, put_length]
  by_cases h1 : j = q + 1
  · subst h1
    rw [List.getElem?_set_self (by rw [List.length_set, hl]; omega), List.getElem?_map, put, List.getElem?_append_right (by rw [List.length_take]; omega), List.length_take, Nat.min_eq_left (by omega)]
    have : q + 1 - q = 1 := by omega
    rw [this]
    have h2 : A.drop q = A[q] :: A.drop (q + 1) := List.drop_eq_getElem_cons h
    rw [h2]; rfl
  · rw [List.getElem?_set_ne (Ne.symm h1)]
    by_cases h2 : j = q
    · subst h2
      rw [List.getElem?_set_self (by rw [hl]; omega), put_get_at A _ j (by omega), enc_nm]
    · rw [List.getElem?_set_ne (Ne.symm h2), List.getElem?_map, List.getElem?_map]
      congr 1
      rcases Nat.lt_or_ge j q with h3 | h3
      · rw [put, put, List.getElem?_append_left (by rw [List.length_take]; omega), List.getElem?_append_left (by rw [List.length_take]; omega), List.getElem?_take_of_lt (by omega), List.getElem?_take_of_lt h3]
      · have h4 : q + 2 ≤ j := by omega
        rw [put, put, List.getElem?_append_right (by rw [List.length_take]; omega), List.getElem?_append_right (by rw [List.length_take]; omega), List.length_take, List.length_take, Nat.min_eq_left (by omega), Nat.min_eq_left (by omega)]
        obtain ⟨d, rfl⟩ : ∃ d, j = q + 2 + d := ⟨j - (q + 2), by omega⟩
        have e1 : q + 2 + d - (q + 1) = d + 1 := by omega
        have e2 : q + 2 + d - q = d + 1 + 1 := by omega
        rw [e1, e2, List.getElem?_cons_succ, List.getElem?_cons_succ, List.getElem?_drop, List.getElem?_drop]
        congr 1; omega
theorem put_perm (A : List (List UInt8)) (x : List UInt8) (p : Nat) : (put A x p).Perm (A ++ [x]) := by
  unfold put
  refine (List.perm_middle).trans ?_
  rw [List.take_append_drop]
  exact (List.perm_append_singleton x A).symm
theorem put_sorted (A : List (List UInt8)) (x : List UInt8) (p : Nat) (h : A.Pairwise fun a b => a ≤ b) (h1 : ∀ z ∈ A.take p, z ≤ x) (h2 : ∀ z ∈ A.drop p, x ≤ z) : (put A x p).Pairwise fun a b => a ≤ b := by
  have h3 := h
  rw [← List.take_append_drop p A, List.pairwise_append] at h3
  obtain ⟨a1, a2, a3⟩ := h3
  unfold put
  rw [List.pairwise_append]
  refine ⟨a1, List.pairwise_cons.2 ⟨h2, a2⟩, fun a ha b hb => ?_⟩
  rcases List.mem_cons.1 hb with rfl | hb
  · exact h1 a ha
  · exact a3 a ha b hb
theorem sorted_unique (l : List KV) (A : List (List UInt8)) (hp : A.Perm (l.map fun e => e.1.data.toList)) (hs : A.Pairwise fun a b => a ≤ b) : A.map encStr = (srt l).map Value.string := by
  have h1 : A = (l.map fun e => e.1.data.toList).mergeSort fun x y => decide (x ≤ y) := by
    refine List.Perm.eq_of_pairwise (le := fun a b => a ≤ b) (fun a b _ _ h1 h2 => List.le_antisymm h1 h2) hs ?_ (hp.trans (List.mergeSort_perm _ _).symm)
    have := List.pairwise_mergeSort (le := fun x y : List UInt8 => decide (x ≤ y)) (fun a b c h1 h2 => decide_eq_true (List.le_trans (of_decide_eq_true h1) (of_decide_eq_true h2)))
      (fun a b => by rcases List.le_total a b with h | h <;> simp [h]) (l.map fun e => e.1.data.toList)
    exact this.imp (fun h => of_decide_eq_true h)
  rw [h1]
  simp [srt, encStr]
theorem ownsRow_form {w : World} {base : Nat} {e : TypeId} {size : Nat} {v : Value} {n : Nat} {xs : List Value} (h : w.ownsRow base e size v n xs) : ∃ a cap, v = .slice a n cap := by
  rcases h.2 with ⟨rfl, rfl⟩ | ⟨g, cap, cur, rfl, _⟩
  · exact ⟨_, _, rfl⟩
  · exact ⟨_, _, rfl⟩
section
variable {w : World} {Z : Nat → Prop} {x : Nat} {vL vT : Value} {l : List KV} {T : Nat → Int}
set_option maxRecDepth 100000 in
set_option maxHeartbeats 4000000 in
theorem rnames_t (h : RefIn w Z x vL vT l T) :
    Calls Try.prog 13 #[.pointer (some ⟨x, 0, none⟩)] w fun y w' => ∃ v, y = .returned v ∧ w'.ownsRow w.heap.size 9 1 v l.length ((srt l).map Value.string) ∧ Below w.heap.size w w' := by
  obtain ⟨i0, hi, hz0, hz1, hz2⟩ := info_parts infoStr
  have c0 : w.cell? ⟨x, 0, none⟩ = some vL := cell_of h.hx rfl
  have hxl : x < w.heap.size := (Array.getElem?_eq_some_iff.1 h.hx).1
  obtain ⟨a, cap, rfl, hc⟩ := h.listed
  have hc' : ∀ k (hk : k < l.length), ∃ g, a = some ⟨g, 0, none⟩ ∧ g < w.heap.size ∧ w.cell? ⟨g, k * 2, none⟩ = some (.string l[k].1) := fun k hk => by
    obtain ⟨g, h1, h2, _⟩ := hc k hk
    exact ⟨g, h1, World.block_lt_of_cell? w _ h2, h2⟩
  have HC := Lib.hid hc'
  have hlen := h.len
  obtain ⟨n, hn⟩ : ∃ n, n = l.length := ⟨_, rfl⟩
  have HN := Lib.hid hn
  rw [← hn] at c0 hlen ⊢
  have HC0 := Lib.hid c0
  have HXL := Lib.hid hxl
  have HI := Lib.hid (And.intro hi (And.intro hz0 (And.intro hz1 hz2)))
  have HLEN := Lib.hid hlen
  clear hi hz0 hz1 hz2 hn hc hc' h c0 hxl
  go_enter Try.func13, Try.ntmps13
  go_wp2
  go_loopw [3, 4] (fun v3 v4 wr => ∃ (k : Nat) (A : List (List UInt8)), v4 = .int .i64 (k : Nat) ∧ k ≤ n ∧ wr.ownsRow w.heap.size 9 1 v3 k (A.map encStr) ∧ A.Perm ((l.take k).map fun e => e.1.data.toList) ∧
    A.Pairwise (fun x y => x ≤ y) ∧ Below w.heap.size w wr) (fun _ v4 _ => n - (intOf v4).toNat)
  case atStart => exact ⟨0, [], rfl, Nat.zero_le _, World.ownsRow_nil _ _ _ _, List.Perm.refl _, List.Pairwise.nil, Below.refl _ _⟩
  case round =>
    obtain ⟨k, A, rfl, hk, hown, hperm, hpw, hbel⟩ := hrel
    have k0 : wr.cell? ⟨x, 0, none⟩ = some (.slice a n cap) := (hbel.cell HXL.out).trans HC0.out
    have HO := Lib.hid hown
    have HP := Lib.hid (And.intro hperm hpw)
    have HB := Lib.hid hbel
    obtain ⟨a3, c3, rfl⟩ := ownsRow_form hown
    by_cases hlt : k < n
    · have t1 : decide ((k : Int) < (n : Int)) = true := decide_eq_true (by omega)
      have hkl : k < l.length := by rw [← HN.out]; exact hlt
      obtain ⟨g, rfl, hg, d0⟩ := HC.out k hkl
      obtain ⟨e, he⟩ : ∃ e, e = l[k] := ⟨_, rfl⟩
      have htake : l.take (k + 1) = l.take k ++ [e] := by rw [he]; exact List.take_succ_eq_append_getElem hkl
      rw [← he] at d0
      have k1 : wr.cell? ⟨g, k * 2, none⟩ = some (.string e.1) := (hbel.cell hg).trans d0
      have HT := Lib.hid htake
      have HK1 := Lib.hid hlt
      have HG := Lib.hid hg
      have hkA : A.length = k := by have := hown.1; simpa using this
      have HKA := Lib.hid hkA
      clear hown hperm hpw hbel htake he d0 hkl hkA hg
      obtain ⟨nm, ky⟩ := e
      go_wp2_with (first | (at_builtin; refine wpList_append_lies _ rfl (.tmp 18) (.tmp 27) 33 rfl w.heap.size 9 i0 (.string ⟨#[]⟩) 1 16 Try.underlying33 HI.out.1 HI.out.2.1 HI.out.2.2.1 HI.out.2.2.2 rfl (by decide) (.slice a3 k c3) k _ rfl (HO.out.alloc _) ⟨wr.heap.size, 0, none⟩ 1 1 [.string nm] rfl rfl (by exact cell_one_new _ _ _) (by simp [Value.oneCell']) (by decide) (by have := HK1.out; have := HLEN.out; unfold maxLen; omega) (by have := HK1.out; have := HLEN.out; omega) (by have := HB.out.size; simp; omega) _ rfl ?_; intro g1 cap1 w1 hown1 hgrow1 hat1 hlt1; have HO1 := Lib.hid hown1; have HG1 := Lib.hid hgrow1; have HL1 := Lib.hid (And.intro hat1 hlt1); clear hown1 hgrow1 hat1 hlt1) | go_in)
      have hg1 : w.heap.size ≤ g1 := (HO1.out.lt g1 rfl).1
      have hkn := HK1.out
      have HG2 := Lib.hid hg1
      have hst : Hid (w1.ownsRow w.heap.size 9 1 (.slice (some ⟨g1, 0, none⟩) (k + 1) cap1) (k + 1) ((put A nm.data.toList k).map encStr) ∧ Below w.heap.size w w1) := by
        refine ⟨?_, ((HB.out.alloc HB.out.size _)).grown HG1.out (by have := HB.out.size; simp; omega) (fun j hj => (HO.out.lt j hj).1)⟩
        have := HO1.out
        rw [put_end _ _ _ HKA.out, List.map_append, List.map_singleton, enc_nm]
        exact this
      clear hg1
      go_loopw [5] (fun v5 w2 => ∃ p : Nat, v5 = .int .i64 (p : Nat) ∧ p ≤ k ∧ w2.ownsRow w.heap.size 9 1 (.slice (some ⟨g1, 0, none⟩) (k + 1) cap1) (k + 1) ((put A nm.data.toList p).map encStr) ∧ (∀ y ∈ A.drop p, nm.data.toList ≤ y) ∧
        Below w.heap.size w w2) (fun v5 _ => (intOf v5).toNat)
      case atStart => exact ⟨k, rfl, Nat.le_refl _, hst.out.1, (fun y hy => by rw [List.drop_eq_nil_of_le (by rw [HKA.out]; exact Nat.le_refl _)] at hy; cases hy), hst.out.2⟩
      case round =>
        clear hst
        obtain ⟨p, rfl, hp, hop, hge, hbp⟩ := hrel
        have HOP := Lib.hid hop
        have HGE := Lib.hid hge
        have HBP := Lib.hid hbp
        obtain ⟨_ , hh2⟩ := ownsRow_elem (ownsRow_base hop (Nat.zero_le _)) g1 rfl
        clear hop hge hbp
        rcases p with _ | q
        · clear hh2
          go_wp2
          go_quiet (fail)
          go_wp2
          have hop := HOP.out
          have hkA := HKA.out
          refine ⟨⟨k + 1, put A nm.data.toList 0, by simp, by omega, hop, ?_, put_sorted A _ 0 HP.out.2 (fun z hz => by cases hz) HGE.out, Below.drewN HBP.out _⟩, by simp [intOf]; omega⟩
          rw [HT.out, List.map_append]
          exact (put_perm A _ 0).trans (HP.out.1.append_right _)
        · have hqA : q < A.length := by rw [HKA.out]; omega
          obtain ⟨y, hy⟩ : ∃ y, y = A[q] := ⟨_, rfl⟩
          have q1 : _ := cell_row HOP.out rfl (i := q) (u := .string ⟨y.toArray⟩) (by rw [hy]; exact put_get_before A _ q hqA)
          have q2 : _ := cell_row HOP.out rfl (i := q + 1) (u := .string nm) (by rw [← enc_nm]; exact put_get_at A _ (q + 1) (by omega))
          have f1 := frozen_of (j := q) hh2
          have f2 := frozen_of (j := q + 1) hh2
          have HY := Lib.hid (show ∀ h : q < A.length, A[q] = y from fun _ => hy.symm)
          clear hh2 hqA hy
          go_wp2
          go_quiet (fail)
          go_wp2
          · rename_i hh
            have hqA : q < A.length := by rw [HKA.out]; omega
            have o1 := ownsRow_set (w := wr.drewN nq) HOP.out rfl q (.string nm)
            have o2 := ownsRow_set o1 rfl (q + 1) (.string ⟨y.toArray⟩)
            have hxy : nm.data.toList ≤ y := by
              have h1 : Op.bytesLess y nm.toList = false := by simpa using hh.1
              rw [bytesLess_eq, ByteArray.toList_eq] at h1
              exact List.not_lt.1 (of_decide_eq_false h1)
            have hsw := put_swap A nm q hqA
            rw [HY.out hqA] at hsw
            rw [hsw] at o2
            refine ⟨⟨q, rfl, by omega, o2, fun z hz => ?_, ((Below.drewN HBP.out nq).setCell HG2.out _).setCell HG2.out _⟩, by simp [intOf]⟩
            have h2 : A.drop q = A[q] :: A.drop (q + 1) := List.drop_eq_getElem_cons hqA
            rw [h2, HY.out hqA] at hz
            rcases List.mem_cons.1 hz with rfl | hz
            · exact hxy
            · exact HGE.out z hz
          · rename_i hh
            have hqA : q < A.length := by rw [HKA.out]; omega
            have hyx : y ≤ nm.data.toList := by
              rcases hh with h | h
              · have h1 : Op.bytesLess y nm.toList = true := by simpa using h
                rw [bytesLess_eq, ByteArray.toList_eq] at h1
                exact List.le_of_lt (of_decide_eq_true h1)
              · have h1 : y = nm.toList := by simpa using h
                rw [h1, ByteArray.toList_eq]
                exact List.le_refl _
            have hpw := HP.out.2
            have hkA := HKA.out
            refine ⟨⟨k + 1, put A nm.data.toList (q + 1), by simp, by omega, HOP.out, ?_, put_sorted A _ (q + 1) hpw (fun z hz => ?_) HGE.out, Below.drewN HBP.out _⟩, by simp [intOf]; omega⟩
            · rw [HT.out, List.map_append]
              exact (put_perm A _ (q + 1)).trans (HP.out.1.append_right _)
            · rw [List.take_succ_eq_append_getElem hqA, HY.out hqA] at hz
              rcases List.mem_append.1 hz with hz | hz
              · have h3 := hpw
                rw [← List.take_append_drop q A, List.pairwise_append] at h3
                have h4 : A.drop q = A[q] :: A.drop (q + 1) := List.drop_eq_getElem_cons hqA
                have h5 := h3.2.2 z hz y (by rw [h4, HY.out hqA]; exact List.mem_cons_self)
                exact List.le_trans h5 hyx
              · obtain rfl := List.mem_singleton.1 hz
                exact hyx
    · obtain rfl : k = n := by omega
      have t1 : decide ((k : Int) < (k : Int)) = false := decide_eq_false (by omega)
      clear hown hperm hpw hbel
      go_wp2
      go_ret
      have h1 := HP.out.1
      rw [HN.out, List.take_length] at h1
      refine ⟨_, rfl, ?_, HB.out⟩
      rw [← sorted_unique l A h1 HP.out.2]
      exact HO.out
end
end Go.Proofs.Ytofikcmjpecmoaa
