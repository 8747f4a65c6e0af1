/- THE LAWS BaseApart and BaseOneWay: each returns true. -/
import Derived.Test.YtgpjpdeiogopfaaW4
namespace Go.Proofs.Ytgpjpdeiogopfaa
open Go.RowKit
attribute [local go_sem] setCell_drewN alloc_drewN
/-- base.Decode, whatever comes -/
theorem dec_any (s : ByteArray) (hs : s.size ≤ 140737488351232) : ∃ (S : ByteArray) (p e : Int),
    (∀ W, Calls Try.prog 10 #[.string s] W fun x w' => x = .returned (.tuple #[.string S, .int .i64 p, .int .i64 e]) ∧ Below W.heap.size W w') ∧
    ((e = 9 ∧ ¬ good s) ∨ (e = 0 ∧ good s ∧ S = decB s ∧ p = 0)) := by
  rcases bad_or s with ⟨m, hm⟩ | hg
  · exact ⟨_, _, _, fun W => dec_bad W s m hm hs, .inl ⟨rfl, fun h => hm.2.2 (h.1 m hm.1)⟩⟩
  · by_cases h : s.size % 4 = 1
    · exact ⟨_, _, _, fun W => dec_good W s _ (by rw [if_pos h]) hg hs, .inl ⟨rfl, fun h2 => h2.2.1 h⟩⟩
    · by_cases hl : left s = 0
      · exact ⟨_, _, _, fun W => dec_good W s _ (by rw [if_neg h, if_pos hl]) hg hs, .inr ⟨rfl, ⟨hg, h, hl⟩, rfl, rfl⟩⟩
      · exact ⟨_, _, _, fun W => dec_good W s _ (by rw [if_neg h, if_neg hl]) hg hs, .inl ⟨rfl, fun h2 => hl h2.2.2⟩⟩
/-- base.Decode of what is well told -/
theorem dec_ok (s : ByteArray) (h : good s) (hs : s.size ≤ 140737488351232) (W : World) :
    Calls Try.prog 10 #[.string s] W fun x w' => x = .returned (.tuple #[.string (decB s), .int .i64 0, .int .i64 0]) ∧ Below W.heap.size W w' :=
  dec_good W s _ (by rw [if_neg h.2.1, if_pos h.2.2]) h.1 hs
theorem wake_enc : enc ⟨#[97]⟩ = ⟨#[89, 81]⟩ := by decide +kernel
theorem wakes_t (W : World) : Calls Try.prog 7 #[] W fun e w' => e = .returned (.bool true) ∧ Below W.heap.size W w' := by
  have hg : good (⟨#[89, 81]⟩ : ByteArray) := wake_enc ▸ good_enc ⟨#[97]⟩
  have hd : decB ⟨#[89, 81]⟩ = ⟨#[97]⟩ := by rw [← wake_enc, decB_enc]
  have HG := Lib.hid hg; have HD := Lib.hid hd
  clear hg hd
  go_enter Try.func7, Try.ntmps7
  go_wp2_with fail
  refine (dec_ok _ HG.out (by decide) W).mono ?_
  rintro e w1 ⟨rfl, hb1⟩
  have HB1 := Lib.hid hb1; clear hb1
  rw [HD.out]
  go_wp2_with fail
  refine (enc_t w1 _ (by decide)).mono ?_
  rintro e w2 ⟨rfl, hb2⟩
  have HB2 := Lib.hid (HB1.out.trans (hb2.mono HB1.out.size)); clear hb2
  rw [wake_enc]
  go_wp2_with fail
  go_ret
  exact ⟨rfl, HB2.out⟩
theorem apart_t (W : World) (s t : ByteArray) (hs : s.size ≤ 140737488351232) (ht : t.size ≤ 140737488351232) :
    Calls Try.prog 6 #[.string s, .string t] W fun e w' => e = .returned (.bool true) ∧ Below W.heap.size W w' := by
  obtain ⟨S, p, e, h1, c1⟩ := dec_any s hs
  obtain ⟨T, q, f, h2, c2⟩ := dec_any t ht
  have hc : (e != 0) = true ∨ (e != 0) = false ∧ ((f != 0) = true ∨ (f != 0) = false ∧ ((S.toList == T.toList) == (s.toList == t.toList)) = true) := by
    rcases c1 with ⟨rfl, _⟩ | ⟨rfl, g1, rfl, _⟩
    · left; rfl
    · right
      refine ⟨rfl, ?_⟩
      rcases c2 with ⟨rfl, _⟩ | ⟨rfl, g2, rfl, _⟩
      · left; rfl
      · right
        refine ⟨rfl, ?_⟩
        have hi := decB_inj s t g1 g2
        have hl : ∀ a b : ByteArray, (a.toList == b.toList) = decide (a = b) := fun a b => by
          rw [ByteArray.toList_eq, ByteArray.toList_eq, Bool.eq_iff_iff, beq_iff_eq, decide_eq_true_iff]
          exact ⟨ba_ext, fun h => by rw [h]⟩
        rw [hl, hl, beq_iff_eq]
        exact decide_eq_decide.2 hi
  have H1 := Lib.hid h1; have H2 := Lib.hid h2
  clear h1 h2 c1 c2
  rcases hc with t1 | ⟨t1, t2 | ⟨t2, t3⟩⟩
  all_goals
    go_enter Try.func6, Try.ntmps6
    go_wp2_with fail
    refine (wakes_t W).mono ?_
    rintro x w1 ⟨rfl, hb1⟩
    have HB1 := Lib.hid hb1; clear hb1
    go_wp2_with fail
    refine (H1.out w1).mono ?_
    rintro x w2 ⟨rfl, hb2⟩
    have HB2 := Lib.hid (HB1.out.trans (hb2.mono HB1.out.size)); clear hb2
    go_wp2_with fail
    refine (H2.out w2).mono ?_
    rintro x w3 ⟨rfl, hb3⟩
    have HB3 := Lib.hid (HB2.out.trans (hb3.mono HB2.out.size)); clear hb3
    go_wp2_with fail
    go_ret
    exact ⟨rfl, HB3.out⟩
theorem oneway_t (W : World) (s : ByteArray) (hs : s.size ≤ 140737488351232) :
    Calls Try.prog 5 #[.string s] W fun e w' => e = .returned (.bool true) ∧ Below W.heap.size W w' := by
  by_cases hbig : 1048576 < s.size
  · have g1 : (1048576 : Int) < (s.size : Int) := by omega
    go_enter Try.func5, Try.ntmps5
    go_wp2_with fail
    refine (wakes_t W).mono ?_
    rintro x w1 ⟨rfl, hb1⟩
    have HB1 := Lib.hid hb1; clear hb1
    go_wp2_with fail
    go_ret
    exact ⟨rfl, HB1.out⟩
  · have g1 : (s.size : Int) ≤ 1048576 := by omega
    obtain ⟨S, p, e, h1, c1⟩ := dec_any s hs
    have hsz := enc_size s
    have hge := good_enc s
    have hde := decB_enc s
    have he : (e != 0) = true ∨ (e != 0) = false ∧ S.size ≤ 1048576 ∧ enc S = s := by
      rcases c1 with ⟨rfl, _⟩ | ⟨rfl, g1, rfl, _⟩
      · left; rfl
      · right
        refine ⟨rfl, ?_, enc_decB s g1⟩
        rw [decB_size]; omega
    have H1 := Lib.hid h1; have HSZ := Lib.hid hsz; have HGE := Lib.hid hge; have HDE := Lib.hid hde
    clear h1 c1 hsz hge hde
    rcases he with t1 | ⟨t1, t2, t3⟩
    · go_enter Try.func5, Try.ntmps5
      go_wp2_with fail
      refine (wakes_t W).mono ?_
      rintro x w1 ⟨rfl, hb1⟩
      have HB1 := Lib.hid hb1; clear hb1
      go_wp2_with fail
      refine (enc_t w1 s (by omega)).mono ?_
      rintro x w2 ⟨rfl, hb2⟩
      have HB2 := Lib.hid (HB1.out.trans (hb2.mono HB1.out.size)); clear hb2
      go_wp2_with fail
      refine (dec_ok (enc s) HGE.out (by rw [HSZ.out]; omega) w2).mono ?_
      rintro x w3 ⟨rfl, hb3⟩
      have HB3 := Lib.hid (HB2.out.trans (hb3.mono HB2.out.size)); clear hb3
      rw [HDE.out]
      go_wp2_with fail
      refine (H1.out w3).mono ?_
      rintro x w4 ⟨rfl, hb4⟩
      have HB4 := Lib.hid (HB3.out.trans (hb4.mono HB3.out.size)); clear hb4
      go_wp2_with fail
      go_ret
      exact ⟨rfl, HB4.out⟩
    · have T3 := Lib.hid t3
      clear t3
      go_enter Try.func5, Try.ntmps5
      go_wp2_with fail
      refine (wakes_t W).mono ?_
      rintro x w1 ⟨rfl, hb1⟩
      have HB1 := Lib.hid hb1; clear hb1
      go_wp2_with fail
      refine (enc_t w1 s (by omega)).mono ?_
      rintro x w2 ⟨rfl, hb2⟩
      have HB2 := Lib.hid (HB1.out.trans (hb2.mono HB1.out.size)); clear hb2
      go_wp2_with fail
      refine (dec_ok (enc s) HGE.out (by rw [HSZ.out]; omega) w2).mono ?_
      rintro x w3 ⟨rfl, hb3⟩
      have HB3 := Lib.hid (HB2.out.trans (hb3.mono HB2.out.size)); clear hb3
      rw [HDE.out]
      go_wp2_with fail
      refine (H1.out w3).mono ?_
      rintro x w4 ⟨rfl, hb4⟩
      have HB4 := Lib.hid (HB3.out.trans (hb4.mono HB3.out.size)); clear hb4
      go_wp2_with fail
      refine (enc_t w4 S (by omega)).mono ?_
      rintro x w5 ⟨rfl, hb5⟩
      have HB5 := Lib.hid (HB4.out.trans (hb5.mono HB4.out.size)); clear hb5
      rw [T3.out]
      go_wp2_with fail
      go_ret
      exact ⟨rfl, HB5.out⟩
end Go.Proofs.Ytgpjpdeiogopfaa
