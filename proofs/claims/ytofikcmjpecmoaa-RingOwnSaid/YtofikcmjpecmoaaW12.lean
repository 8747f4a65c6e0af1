/- ref.New, over this dump. -/
import Derived.Test.YtofikcmjpecmoaaW11
namespace Go.Proofs.Ytofikcmjpecmoaa
open Go.RowKit Go.ChangeMaps Go.Maps Go.WideMaps
theorem info37 : (Try.prog.info? 37).map (fun i => (i.zero, i.size, i.bytes)) = some (some (.agg #[.string ⟨#[]⟩, .string ⟨#[]⟩]), 2, 32) := by kernel_rfl
theorem info3 : (Try.prog.info? 3).map (fun i => (i.zero, i.size, i.bytes)) = some (some (.int .i64 0), 1, 8) := by kernel_rfl
theorem fnd_names_some {l : List KV} {s : ByteArray} {i : Nat} (h : fnd l s = some i) : s.data.toList ∈ names l := by
  obtain ⟨hi, h1⟩ := fnd_some h
  exact List.mem_map.2 ⟨l[i], List.getElem_mem hi, by rw [h1]⟩
theorem fnd_names_none {l : List KV} {s : ByteArray} (h : fnd l s = none) : s.data.toList ∉ names l := by
  intro hin
  obtain ⟨e, he, h1⟩ := List.mem_map.1 hin
  exact fnd_none h e he (ba_ext h1)
theorem ref_made (w : World) : RefIn (w.alloc (.cells #[.slice none 0 0, .slice none 0 0] 76)) (fun k => w.heap.size ≤ k) w.heap.size (.slice none 0 0) (.slice none 0 0) [] (fun _ => 0) :=
  ⟨heap_alloc_new _ _, World.ownsRow_nil _ _ _ _, World.ownsRow_nil _ _ _ _, Nat.le_refl _, (fun g hg => by cases hg), (fun g hg => by cases hg), by decide⟩
theorem grown_any {w w0 w1 : World} {row : Option Nat} {r : Nat} {o o' : Obj} (h0 : w0.heap = (w.alloc o').heap) (hg : w0.grownBy w1 row) (hr : w.heap[r]? = some o) (hne : some r ≠ row) : w1.heap[r]? = some o := by
  have hlt : r < w.heap.size := (Array.getElem?_eq_some_iff.1 hr).1
  refine (hg.block r (by rw [h0]; show r < (w.heap.push o').size; simp; omega) hne).trans ?_
  rw [h0]
  show (w.heap.push o')[r]? = _
  rw [Array.getElem?_push, if_neg (by omega)]; exact hr
/-- what an append into a field of the block x leaves: the field's store behind it -/
theorem app_world {wb w0 w1 : World} {x j g1 cap1 n : Nat} {cs : Array Value} {e tx eo : TypeId} {size : Nat} {o' : Obj} {v : Value} {xs : List Value} {Z : Nat → Prop}
    (h0 : w0.heap = (wb.alloc o').heap) (h00 : w0.os = wb.os ∧ w0.tape = wb.tape ∧ w0.output = wb.output)
    (hx : wb.heap[x]? = some (.cells cs tx (0, 0))) (hv : wb.ownsRow 0 e size v n xs) (hne : e ≠ tx)
    (hg : w0.grownBy w1 v.ownBlock) (hat : v.ownBlock = some g1 ∨ g1 = w0.heap.size) {m : Nat} {ys : List Value}
    (ho : w1.ownsRow 0 e size (.slice (some ⟨g1, 0, none⟩) m cap1) m ys) (hz : ∀ g, v.ownBlock = some g → Z g) (hzn : ∀ g, wb.heap.size ≤ g → Z g) (hzx : Z x) :
    (w1.setCell ⟨x, j, none⟩ (.slice (some ⟨g1, 0, none⟩) m cap1)).heap[x]? = some (.cells (cs.setIfInBounds j (.slice (some ⟨g1, 0, none⟩) m cap1)) tx (0, 0)) ∧
    (w1.setCell ⟨x, j, none⟩ (.slice (some ⟨g1, 0, none⟩) m cap1)).ownsRow 0 e size (.slice (some ⟨g1, 0, none⟩) m cap1) m ys ∧
    Z g1 ∧ Turn Z wb (w1.setCell ⟨x, j, none⟩ (.slice (some ⟨g1, 0, none⟩) m cap1)) ∧
    (∀ {size2 : Nat} {v2 : Value} {n2 : Nat} {xs2 : List Value}, wb.ownsRow 0 eo size2 v2 n2 xs2 → eo ≠ e → eo ≠ tx → (w1.setCell ⟨x, j, none⟩ (.slice (some ⟨g1, 0, none⟩) m cap1)).ownsRow 0 eo size2 v2 n2 xs2) := by
  have hs0 : w0.heap.size = wb.heap.size + 1 := by rw [h0]; simp
  have hnx : some x ≠ v.ownBlock := fun e1 => by
    obtain ⟨c, hc⟩ := ownsRow_elem hv x e1.symm
    rw [hx] at hc
    simp at hc
    exact hne hc.2.symm
  have hx1 := grown_any h0 hg hx hnx
  have hlt : x < wb.heap.size := (Array.getElem?_eq_some_iff.1 hx).1
  have hgx : g1 ≠ x := by
    rcases hat with h | h
    · exact fun e1 => hnx (by rw [h, e1])
    · omega
  refine ⟨heap_setCell_same hx1 _, ownsRow_set_aside ho (fun e1 => hgx (Option.some.inj e1).symm), ?_, ?_, ?_⟩
  · rcases hat with h | h
    · exact hz g1 h
    · exact hzn g1 (by omega)
  · have ht : Turn Z wb w0 := ⟨h00.1, h00.2.1, h00.2.2, by omega, fun k hk _ => by rw [h0]; exact Below.heap_alloc _ _ _ hk⟩
    exact (ht.grown hg hz).setCell hzx _
  · intro size2 v2 n2 xs2 h2 hne2 hne3
    refine ownsRow_same h2 (fun g hg2 => ?_)
    obtain ⟨c, hc⟩ := ownsRow_elem h2 g hg2
    have h3 : some g ≠ v.ownBlock := fun e1 => by
      obtain ⟨c2, hc2⟩ := ownsRow_elem hv g e1.symm
      rw [hc] at hc2
      simp at hc2
      exact hne2 hc2.2
    have h4 : g ≠ x := fun e1 => by
      rw [e1, hx] at hc
      simp at hc
      exact hne3 hc.2.symm
    rw [heap_setCell_other h4, grown_any h0 hg hc h3, hc]
set_option maxRecDepth 100000 in
set_option maxHeartbeats 4000000 in
theorem rnew_t (w : World) (v : Value) (l : List KV) (hl : Lies w v l) :
    Calls Try.prog 9 #[v] w fun y w' => Below w.heap.size w w' ∧ ((newCode l = 0 ∧ ∃ x, y = .returned (.tuple #[.pointer (some ⟨x, 0, none⟩), .int .i64 0]) ∧ RefAt w' (fun k => w.heap.size ≤ k) x l (fun _ => 0)) ∨
      (newCode l ≠ 0 ∧ y = .returned (.tuple #[.pointer none, .int .i64 (newCode l)]))) := by
  obtain ⟨i0, hi, hz0, hz1, hz2⟩ := info_parts info37
  obtain ⟨j0, hj, hy0, hy1, hy2⟩ := info_parts info3
  obtain ⟨a, cap, rfl, hcell⟩ := hl
  by_cases h64 : 64 < l.length
  · have t1 : (64 : Int) < (l.length : Int) := by omega
    have HC : Hid (newCode l = 10) := by show newCode l = 10; unfold newCode; rw [if_pos h64]
    clear hcell h64
    go_enter Try.func9, Try.ntmps9
    go_wp2
    go_ret2
    rw [HC.out]
    exact ⟨Below.refl _ _, Or.inr ⟨by decide, rfl⟩⟩
  · have HC : Hid (newCode l = code [] l) := by show newCode l = code [] l; unfold newCode; rw [if_neg h64]
    have t1 : (l.length : Int) ≤ (64 : Int) := by omega
    have HCELL := Lib.hid hcell
    obtain ⟨n, hn⟩ : ∃ n, n = l.length := ⟨_, rfl⟩
    have HN := Lib.hid hn
    rw [← hn] at t1 ⊢
    have HI := Lib.hid (And.intro hi (And.intro hz0 (And.intro hz1 hz2)))
    have HJ := Lib.hid (And.intro hj (And.intro hy0 (And.intro hy1 hy2)))
    clear hi hz0 hz1 hz2 hj hy0 hy1 hy2 hn hcell h64
    go_enter Try.func9, Try.ntmps9
    go_wp2
    go_loopw [5] (fun v5 wr => ∃ (k : Nat) (vL vT : Value), v5 = .int .i64 (k : Nat) ∧ k ≤ n ∧ RefIn wr (fun j => w.heap.size ≤ j) w.heap.size vL vT (l.take k) (fun _ => 0) ∧
      code (names (l.take k)) (l.drop k) = code [] l ∧ Below w.heap.size w wr) (fun v5 _ => n - (intOf v5).toNat)
    case atStart => exact ⟨0, _, _, rfl, Nat.zero_le _, ref_made w, rfl, (Below.refl _ w).alloc (Nat.le_refl _) _⟩
    case round =>
      obtain ⟨k, vL, vT, rfl, hk, href, hcode, hbel⟩ := hrel
      have HRF := Lib.hid href
      have HCO := Lib.hid hcode
      have HB := Lib.hid hbel
      by_cases hlt : k < n
      · have t2 : decide ((k : Int) < (n : Int)) = true := decide_eq_true (by omega)
        have hkl : k < l.length := by rw [← HN.out]; exact hlt
        obtain ⟨b, off, rfl, hb, d0, d1⟩ := HCELL.out k hkl
        obtain ⟨e, he⟩ : ∃ e, e = l[k] := ⟨_, rfl⟩
        have hdrop : l.drop k = e :: l.drop (k + 1) := by rw [he]; exact List.drop_eq_getElem_cons hkl
        have htake : l.take (k + 1) = l.take k ++ [e] := by rw [he]; exact List.take_succ_eq_append_getElem hkl
        rw [← he] at d0 d1
        have k0 : wr.cell? ⟨b, off + k * 2, none⟩ = some (.string e.1) := (hbel.cell hb).trans d0
        have k1 : wr.cell? ⟨b, off + k * 2 + 1, none⟩ = some (.string e.2) := (hbel.cell hb).trans d1
        have HD := Lib.hid hdrop
        have HT := Lib.hid htake
        have HE := Lib.hid hb
        have HLT := Lib.hid (show (l.take k).length = k by rw [List.length_take]; omega)
        clear href hcode hbel hdrop htake he d0 d1 hb hkl
        obtain ⟨nm, key⟩ := e
        by_cases hbad : bad (nm, key)
        · have HX : Hid (newCode l = 2) := by
            show newCode l = 2
            rw [HC.out, ← HCO.out, HD.out, code, if_pos hbad]
          by_cases g1 : (nm.size : Int) = 0
          · go_wp2
            go_ret2
            rw [HX.out]
            exact ⟨HB.out.alloc HB.out.size _, Or.inr ⟨by decide, rfl⟩⟩
          have e1 : ¬ nm = ByteArray.empty := fun h => g1 (by rw [h]; rfl)
          have b1 : ((nm.size : Int) == 0) = false := beq_false_of_ne g1
          by_cases g2 : (128 : Int) < (nm.size : Int)
          · go_wp2
            go_ret2
            rw [HX.out]
            exact ⟨HB.out.alloc HB.out.size _, Or.inr ⟨by decide, rfl⟩⟩
          have g2' : (nm.size : Int) ≤ 128 := by omega
          by_cases g3 : (key.size : Int) = 0
          · go_wp2
            go_ret2
            rw [HX.out]
            exact ⟨HB.out.alloc HB.out.size _, Or.inr ⟨by decide, rfl⟩⟩
          have e3 : ¬ key = ByteArray.empty := fun h => g3 (by rw [h]; rfl)
          have b3 : ((key.size : Int) == 0) = false := beq_false_of_ne g3
          have g4 : (1024 : Int) < (key.size : Int) := by
            rcases hbad with h | h | h | h
            · exact absurd (by show ((nm.size : Nat) : Int) = 0; have : nm.size = 0 := h; omega) g1
            · exact absurd (by show (128 : Int) < (nm.size : Int); have : 128 < nm.size := h; omega) g2
            · exact absurd (by show ((key.size : Nat) : Int) = 0; have : key.size = 0 := h; omega) g3
            · have : 1024 < key.size := h
              omega
          go_wp2
          go_ret2
          rw [HX.out]
          exact ⟨HB.out.alloc HB.out.size _, Or.inr ⟨by decide, rfl⟩⟩
        · have g1 : (nm.size : Int) ≠ 0 := fun h => hbad (Or.inl (by show nm.size = 0; omega))
          have g2 : (nm.size : Int) ≤ 128 := by
            have : ¬ 128 < nm.size := fun h => hbad (Or.inr (Or.inl h))
            omega
          have g3 : (key.size : Int) ≠ 0 := fun h => hbad (Or.inr (Or.inr (Or.inl (by show key.size = 0; omega))))
          have g4 : (key.size : Int) ≤ 1024 := by
            have : ¬ 1024 < key.size := fun h => hbad (Or.inr (Or.inr (Or.inr h)))
            omega
          have HBAD := Lib.hid hbad
          have e1 : ¬ nm = ByteArray.empty := fun h => g1 (by rw [h]; rfl)
          have b1 : ((nm.size : Int) == 0) = false := beq_false_of_ne g1
          have e3 : ¬ key = ByteArray.empty := fun h => g3 (by rw [h]; rfl)
          have b3 : ((key.size : Int) == 0) = false := beq_false_of_ne g3
          have b2 : decide ((128 : Int) < (nm.size : Int)) = false := decide_eq_false (by omega)
          have b4 : decide ((1024 : Int) < (key.size : Int)) = false := decide_eq_false (by omega)
          have HREF1 := Lib.hid (show RefIn (wr.alloc (.cells #[.string nm, .string key] 37)) (fun j => w.heap.size ≤ j) w.heap.size vL vT (l.take k) (fun _ => 0) from HRF.out.same (fun j hj _ => Below.heap_alloc _ _ _ hj))
          clear hbad
          cases hf : fnd (l.take k) nm with
          | some i =>
            have HAT := Lib.hid (rat_t HREF1.out nm)
            rw [hf] at HAT
            have HX : Hid (newCode l = 13) := by
              show newCode l = 13
              rw [HC.out, ← HCO.out, HD.out, code, if_neg HBAD.out, if_pos (fnd_names_some hf)]
            have HAT2 : Hid (Calls Try.prog 17 #[.pointer (some ⟨w.heap.size, 0, none⟩), .string nm] (wr.alloc (.cells #[.string nm, .string key] 37)) fun e w' => e = .returned (.int .i64 (i : Nat)) ∧ w' = wr.alloc (.cells #[.string nm, .string key] 37)) := HAT
            clear HAT hf
            go_wp2_with (go_at_call 17; refine HAT2.out.mono ?_; rintro e1 w1 ⟨rfl, rfl⟩)
            go_ret2
            rw [HX.out]
            exact ⟨HB.out.alloc HB.out.size _, Or.inr ⟨by decide, rfl⟩⟩
          | none =>
            have HAT := Lib.hid (rat_t HREF1.out nm)
            rw [hf] at HAT
            have HAT2 : Hid (Calls Try.prog 17 #[.pointer (some ⟨w.heap.size, 0, none⟩), .string nm] (wr.alloc (.cells #[.string nm, .string key] 37)) fun e w' => e = .returned (.int .i64 (-1)) ∧ w' = wr.alloc (.cells #[.string nm, .string key] 37)) := HAT
            have HF := Lib.hid hf
            clear HAT hf
            go_wp2_with (go_at_call 17; refine HAT2.out.mono ?_; rintro e1 w1 ⟨rfl, hw1⟩; obtain rfl := hw1.symm)
            have hwr := HB.out.size
            obtain ⟨wb, hwb⟩ : ∃ wb, wb = wr.alloc (.cells #[.string nm, .string key] 37) := ⟨_, rfl⟩
            have eb : wb.heap[wr.heap.size]? = some (.cells #[.string nm, .string key] 37 (0, 0)) := by rw [hwb]; exact heap_alloc_new _ _
            have hrb := HREF1.out
            rw [← hwb] at hrb ⊢
            have HBB := Lib.hid (show Below w.heap.size w wb by rw [hwb]; exact HB.out.alloc HB.out.size _)
            have hlb : wb.ownsRow 0 37 2 vL k (flat (l.take k)) := by have := hrb.hl; rw [HLT.out] at this; exact this
            have htb : wb.ownsRow 0 3 1 vT k (cnts k fun _ => 0) := by have := hrb.ht; rw [HLT.out] at this; exact this
            have s0 : wb.cell? ⟨wr.heap.size, 0, none⟩ = some (.string nm) := cell_of eb rfl
            have s1 : wb.cell? ⟨wr.heap.size, 1, none⟩ = some (.string key) := cell_of eb rfl
            have c0 : wb.cell? ⟨w.heap.size, 0, none⟩ = some vL := cell_of hrb.hx rfl
            have c0' : (wb.alloc (.cells #[.string nm, .string key] 37)).cell? ⟨w.heap.size, 0, none⟩ = some vL :=
              (World.cell?_of_block (Below.heap_alloc wb _ _ (Array.getElem?_eq_some_iff.1 hrb.hx).1)).trans c0
            have HXB := Lib.hid hrb.hx
            have HLB := Lib.hid hlb
            have HTB := Lib.hid htb
            have HRB := Lib.hid hrb
            have HK1 := Lib.hid hlt
            have HT1 := Lib.hid t1
            clear hwb eb hrb hlb htb HREF1 HAT2 hwr
            go_region_law ((refine step_append_lies _ rfl (.tmp 53) (.tmp 55) 22 rfl 0 37 i0 (.agg #[.string ⟨#[]⟩, .string ⟨#[]⟩]) 2 32 Try.underlying22 HI.out.1 HI.out.2.1 HI.out.2.2.1 HI.out.2.2.2 rfl (by decide) vL k _ rfl ((HLB.out.alloc _).drew) ⟨wb.heap.size, 0, none⟩ 1 1 [.string nm, .string key] rfl rfl (World.news_of_block (cs := #[.string nm, .string key]) (t := 37) (heap_alloc_new wb _)) (by simp [Value.oneCell']) (by decide) (by have := HK1.out; have := HT1.out; unfold maxLen; omega) (by have := HK1.out; have := HT1.out; omega) (Nat.zero_le _) _ rfl ?_; intro g1 cap1 w1 hown1 hgrow hat _; have HAW := Lib.hid (app_world (o' := .cells #[.string nm, .string key] 37) (j := 0) (eo := 3) (Z := fun j => w.heap.size ≤ j) (by rfl) (by exact ⟨rfl, rfl, rfl⟩) HXB.out HLB.out (by decide) hgrow hat hown1 HRB.out.zl (fun g hg => Nat.le_trans HBB.out.size hg) (Nat.le_refl _)); have hr1 := grown_keeps hgrow HXB.out (fun e1 => by obtain ⟨c, hc⟩ := ownsRow_elem HLB.out _ e1.symm; rw [HXB.out] at hc; simp at hc); have c5 := cell_of (j := 0) hr1 rfl; have f5 := frozen_of (j := 0) hr1; clear hown1 hgrow hat hr1))
            all_goals
              obtain ⟨xa, la, za, ta, oa⟩ := HAW.out
              obtain ⟨wa, hwa⟩ : ∃ wa, wa = w1.setCell ⟨w.heap.size, 0, none⟩ (.slice (some ⟨g1, 0, none⟩) (k + 1) cap1) := ⟨_, rfl⟩
              have cta := oa HTB.out (by decide) (by decide)
              clear oa
              rw [← hwa] at xa la ta cta ⊢
              have c1 : wa.cell? ⟨w.heap.size, 1, none⟩ = some vT := cell_of xa rfl
              have HXA := Lib.hid xa
              have HLA := Lib.hid la
              have HCT := Lib.hid cta
              have HTA := Lib.hid ta
              have HZA := Lib.hid za
              clear xa la ta cta za HAW hwa c5 f5
              go_wp2_with (first | (at_builtin; refine wpList_append_lies _ rfl (.tmp 63) (.tmp 64) 74 rfl 0 3 j0 (.int .i64 0) 1 8 Try.underlying74 HJ.out.1 HJ.out.2.1 HJ.out.2.2.1 HJ.out.2.2.2 rfl (by decide) vT k _ rfl (HCT.out.alloc _) ⟨wa.heap.size, 0, none⟩ 1 1 [.int .i64 0] rfl rfl (by exact cell_one_new _ _ _) (by simp [Value.oneCell']) (by decide) (by have := HK1.out; have := HT1.out; unfold maxLen; omega) (by have := HK1.out; have := HT1.out; omega) (Nat.zero_le _) _ rfl ?_; intro g2 cap2 w2 hown2 hgrow2 hat2 _; have HAW2 := Lib.hid (app_world (o' := .cells #[.int .i64 0] 3) (j := 1) (eo := 37) (Z := fun j => w.heap.size ≤ j) (by rfl) (by exact ⟨rfl, rfl, rfl⟩) HXA.out HCT.out (by decide) hgrow2 hat2 hown2 HRB.out.zt (fun g hg => Nat.le_trans (Nat.le_trans HBB.out.size HTA.out.size) hg) (Nat.le_refl _)); have hr2 := grown_any (o' := .cells #[.int .i64 0] 3) (by rfl) hgrow2 HXA.out (fun e1 => by obtain ⟨c, hc⟩ := ownsRow_elem HCT.out _ e1.symm; rw [HXA.out] at hc; simp at hc); have c6 := cell_of (j := 1) hr2 rfl; have f6 := frozen_of (j := 1) hr2; clear hown2 hgrow2 hat2 hr2) | go_in)
              obtain ⟨xc, lc, zc, tc, oc⟩ := HAW2.out
              have hrb := HRB.out
              have hfl : flat (l.take (k + 1)) = flat (l.take k) ++ [.string nm, .string key] := by rw [HT.out, flat_snoc]
              have hlen1 : (l.take (k + 1)).length = k + 1 := by rw [HT.out, List.length_append, HLT.out]; rfl
              have hk1 := HK1.out
              refine ⟨⟨k + 1, .slice (some ⟨g1, 0, none⟩) (k + 1) cap1, .slice (some ⟨g2, 0, none⟩) (k + 1) cap2, by simp, by omega, ⟨?_, ?_, ?_, Nat.le_refl _, ?_, ?_, ?_⟩, ?_, ?_⟩, by simp [intOf]; omega⟩
              · exact xc
              · rw [hlen1, hfl]
                exact oc HLA.out (by decide) (by decide)
              · rw [hlen1, cnts_snoc]
                exact lc
              · intro g hg
                obtain rfl := Option.some.inj hg
                exact HZA.out
              · intro g hg
                obtain rfl := Option.some.inj hg
                exact zc
              · rw [hlen1]; have := HT1.out; omega
              · rw [HT.out, ← HCO.out, HD.out, code, if_neg HBAD.out, if_neg (fnd_names_none HF.out)]
                simp [names]
              · exact HBB.out.trans ((HTA.out.trans tc).toBelow HBB.out.size (fun k hk => by omega))
      · obtain rfl : k = n := by omega
        have HX : Hid (newCode l = 0) := by
          show newCode l = 0
          rw [HC.out, ← HCO.out, HN.out, List.drop_length, code]
        have t2 : decide ((k : Int) < (k : Int)) = false := decide_eq_false (by omega)
        clear href hcode hbel
        go_wp2
        go_ret2
        have h1 := HRF.out
        rw [HN.out, List.take_length] at h1
        exact ⟨HB.out, Or.inl ⟨HX.out, _, rfl, _, _, h1⟩⟩
end Go.Proofs.Ytofikcmjpecmoaa
