/- THE LAW BaseDecodes: it returns true. -/
import Derived.Test.YtgpjpdeiogopfaaL1
import Derived.Test.YtgpjpdeiogopfaaW7
namespace Go.Proofs.Ytgpjpdeiogopfaa
open Go.RowKit
attribute [local go_sem] setCell_drewN alloc_drewN
/-- both read alike -/
theorem both (s : ByteArray) (hs : s.size ≤ 1048576) : ∃ (S : ByteArray) (p e : Int),
    (∀ W, Calls Try.prog 10 #[.string s] W fun x w' => x = .returned (.tuple #[.string S, .int .i64 p, .int .i64 e]) ∧ Below W.heap.size W w') ∧
    (∀ W, Calls Try.prog 11 #[.string s] W fun x w' => x = .returned (.tuple #[.string S, .int .i64 p, .int .i64 e]) ∧ Below W.heap.size W w') := by
  rcases bad_or s with ⟨m, hm⟩ | hg
  · exact ⟨_, _, _, fun W => dec_bad W s m hm (by omega), fun W => rdec_bad W s m hm hs⟩
  · by_cases h : s.size % 4 = 1
    · exact ⟨_, _, _, fun W => dec_good W s _ (by rw [if_pos h]) hg (by omega), fun W => rdec_good W s _ (by rw [if_pos h]) hg hs⟩
    · by_cases hl : left s = 0
      · exact ⟨_, _, _, fun W => dec_good W s _ (by rw [if_neg h, if_pos hl]) hg (by omega), fun W => rdec_good W s _ (by rw [if_neg h, if_pos hl]) hg hs⟩
      · exact ⟨_, _, _, fun W => dec_good W s _ (by rw [if_neg h, if_neg hl]) hg (by omega), fun W => rdec_good W s _ (by rw [if_neg h, if_neg hl]) hg hs⟩
theorem decodes_t (W : World) (s : ByteArray) (hs : s.size ≤ 140737488351232) :
    Calls Try.prog 4 #[.string s] W fun e w' => e = .returned (.bool true) ∧ Below W.heap.size W w' := by
  by_cases hbig : 1048576 < s.size
  · have g1 : (1048576 : Int) < (s.size : Int) := by omega
    go_enter Try.func4, Try.ntmps4
    go_wp2_with fail
    refine (wakes_t W).mono ?_
    rintro x w1 ⟨rfl, hb1⟩
    have HB1 := Lib.hid hb1; clear hb1
    go_wp2_with fail
    go_ret
    exact ⟨rfl, HB1.out⟩
  · have g1 : (s.size : Int) ≤ 1048576 := by omega
    obtain ⟨S, p, e, h1, h2⟩ := both s (by omega)
    have H1 := Lib.hid h1; have H2 := Lib.hid h2
    clear h1 h2
    go_enter Try.func4, Try.ntmps4
    go_wp2_with fail
    refine (wakes_t W).mono ?_
    rintro x w1 ⟨rfl, hb1⟩
    have HB1 := Lib.hid hb1; clear hb1
    go_wp2_with fail
    refine (H1.out w1).mono ?_
    rintro x w2 ⟨rfl, hb2⟩
    have HB2 := Lib.hid (HB1.out.trans (hb2.mono HB1.out.size)); clear hb2
    go_wp2_with fail
    refine (H2.out w2).mono ?_
    rintro x w3 ⟨rfl, hb3⟩
    have HB3 := Lib.hid (HB2.out.trans (hb3.mono HB2.out.size)); clear hb3
    go_wp2_with fail
    go_ret
    exact ⟨rfl, HB3.out⟩
end Go.Proofs.Ytgpjpdeiogopfaa
