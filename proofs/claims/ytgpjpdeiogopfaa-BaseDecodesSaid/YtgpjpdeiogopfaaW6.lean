/- pyxisref14.Encode. -/
import Derived.Test.YtgpjpdeiogopfaaW5
import Derived.Laws.OwnMore
import Derived.Deep.AppendLies
namespace Go.Proofs.Ytgpjpdeiogopfaa
open Go.RowKit
attribute [local go_sem] setCell_drewN alloc_drewN b64_byte
theorem info3 : (Try.prog.info? 3).map (fun i => (i.zero, i.size, i.bytes)) = some (some (.int .i64 0), 1, 8) := by kernel_rfl
/-- the first m bits, as cells -/
def bl (f : Bits) (m : Nat) : List Value := (List.range m).map fun i => Value.int .i64 ((f i : Nat) : Int)
theorem bl_snoc (f : Bits) (m : Nat) : bl f (m + 1) = bl f m ++ [.int .i64 ((f m : Nat) : Int)] := by simp [bl, List.range_succ]
theorem bl_get (f : Bits) (m i : Nat) (h : i < m) : (bl f m)[i]? = some (.int .i64 ((f i : Nat) : Int)) := by
  rw [bl, List.getElem?_map, List.getElem?_range h]; rfl
theorem and1 (x : Nat) (h : x < 128 ∨ x < 256) : bits .and .i64 (x : Int) 1 = ((x % 2 : Nat) : Int) := by
  have hall : ∀ m : Fin 256, bits .and .i64 (m.val : Int) 1 = ((m.val % 2 : Nat) : Int) := by decide +kernel
  exact hall ⟨x, by omega⟩
theorem sbits_at (s : ByteArray) (i t : Nat) (ht : t < 8) : sbits s (8 * i + t) = (byteAt s i).toNat / 2 ^ (7 - t) % 2 := by
  unfold sbits strm bitOf
  have e1 : (8 * i + t) / 8 = i := by omega
  have e2 : (8 * i + t) % 8 = t := by omega
  rw [e1, e2]
theorem own_below {w w' : World} {base e size n : Nat} {v : Value} {xs : List Value} (h : w.ownsRow base e size v n xs) (hb : Below w.heap.size w w') : w'.ownsRow base e size v n xs :=
  h.kept (row := none) ⟨hb.os, hb.tape, hb.output, hb.size, fun k hk _ => hb.block k hk⟩ (by cases hv : v.ownBlock <;> simp)
/-- a slice's length -/
def sliceLen : Value → Nat
  | .slice _ n _ => n
  | _ => 0
theorem own_form {w : World} {base e size n : Nat} {v : Value} {xs : List Value} (h : w.ownsRow base e size v n xs) : ∃ p cap, v = .slice p n cap := by
  rcases h.2 with ⟨rfl, h0⟩ | ⟨g, cap, cur, rfl, _⟩
  · exact ⟨none, 0, by rw [h0]⟩
  · exact ⟨_, _, rfl⟩
set_option maxRecDepth 100000 in
set_option maxHeartbeats 1000000 in
theorem renc_t (W : World) (s : ByteArray) (hs : s.size ≤ 1048576) :
    Calls Try.prog 9 #[.string s] W fun e w' => e = .returned (.string (enc s)) ∧ Below W.heap.size W w' := by
  obtain ⟨i0, hi, hz0, hz1, hz2⟩ := info_parts info5
  have HI := Lib.hid hi; have HZ0 := Lib.hid hz0; have HZ1 := Lib.hid hz1; have HZ2 := Lib.hid hz2
  clear hi hz0 hz1 hz2
  obtain ⟨i3, hi, hz0, hz1, hz2⟩ := info_parts info3
  have HI3 := Lib.hid hi; have HY0 := Lib.hid hz0; have HY1 := Lib.hid hz1; have HY2 := Lib.hid hz2
  clear hi hz0 hz1 hz2
  go_enter Try.func9, Try.ntmps9
  go_wp2
  go_loopw [3, 4, 5] (fun v i _ wr => ∃ k : Nat, k ≤ s.size ∧ i = .int .i64 (k : Int) ∧ wr.ownsRow W.heap.size 3 1 v (8 * k) (bl (sbits s) (8 * k)) ∧ Below W.heap.size W wr) (fun _ i _ _ => s.size - (intOf i).toNat)
  case atStart => exact ⟨0, by omega, rfl, World.ownsRow_nil _ _ _ _, Below.refl _ _⟩
  case round =>
    obtain ⟨k, hk, rfl, hown, hbl⟩ := hrel
    have HO := Lib.hid hown; have HL := Lib.hid hbl
    clear hown hbl
    by_cases hlt : k < s.size
    · have g0 : (k : Int) < (s.size : Int) := by omega
      obtain ⟨c, hc⟩ : ∃ c, c = byteAt s k := ⟨_, rfl⟩
      have hsk : s[k] = c := by rw [hc]; exact byteAt_get s k hlt
      have HC := Lib.hid hc
      clear hc
      go_wp2
      go_loopw [3, 5] (fun v i wr => ∃ t : Nat, t ≤ 8 ∧ i = .int .i64 (7 - (t : Int)) ∧ wr.ownsRow W.heap.size 3 1 v (8 * k + t) (bl (sbits s) (8 * k + t)) ∧ Below W.heap.size W wr) (fun _ i _ => (intOf i + 1).toNat)
      case atStart => exact ⟨0, by omega, rfl, HO.out, HL.out⟩
      case round =>
        obtain ⟨t, ht, rfl, hown, hbl⟩ := hrel
        have HO := Lib.hid hown; have HL := Lib.hid hbl
        clear hown hbl
        by_cases ht8 : t < 8
        · have hbit := sbits_at s k t ht8
          rw [← HC.out] at hbit
          have hc8 := c.toNat_lt
          obtain ⟨d, hd⟩ : ∃ d, d = 7 - t := ⟨_, rfl⟩
          rw [← hd] at hbit
          have g1 : (7 : Int) - (t : Int) = (d : Int) := by omega
          obtain ⟨x, hx⟩ : ∃ x, x = c.toNat / 2 ^ d := ⟨_, rfl⟩
          have hxc : x ≤ c.toNat := by rw [hx]; exact Nat.div_le_self _ _
          rw [← hx] at hbit
          have g2 : ((c.toNat : Nat) : Int) / 2 ^ d = (x : Int) := by rw [hx]; simp
          obtain ⟨y, hy⟩ : ∃ y, y = sbits s (8 * k + t) := ⟨_, rfl⟩
          have g3 : bits .and .i64 (x : Int) 1 = (y : Int) := by rw [and1 x (by omega), hy, hbit]
          have g4 : IntKind.u64.wrap (d : Int) = (d : Int) := by rw [IntKind.wrap_u64, Int.emod_eq_of_lt] <;> omega
          have g5 : d < 8 := by omega
          have H1 : Hid (bl (sbits s) (8 * k + t + 1) = bl (sbits s) (8 * k + t) ++ [.int .i64 (y : Int)]) := by rw [bl_snoc, ← hy]; exact rfl
          obtain ⟨N, hN⟩ : ∃ N, N = 8 * k + t := ⟨_, rfl⟩
          rw [← hN] at HO H1
          have hN2 : N < 8388616 := by omega
          have HD := Lib.hid hd; have HX := Lib.hid hx; have HY := Lib.hid hy; have HN := Lib.hid hN; have HXC := Lib.hid hxc
          clear hbit hd hx hy hN hxc
          go_wp2_with (at_builtin; refine wpList_append_own _ rfl _ _ 40 rfl W.heap.size 3 i3 (.int .i64 0) 1 8 Try.underlying40 HI3.out HY0.out HY1.out HY2.out rfl (by decide) _ _ _ rfl (HO.out.alloc _) ⟨wr.heap.size, 0, none⟩ 1 1 [.int .i64 (y : Int)] rfl rfl ?c1 ?c2 ?c3 ?c4 ?c5 ?_)
          case c1 =>
            intro j u hj
            match j, hj with
            | 0, hj => simp at hj; subst hj; simp [Addr.add]
          case c2 => intro u hu; simp at hu; subst hu; rfl
          case c3 => unfold maxLen; omega
          case c4 => omega
          case c5 => have := HL.out.size; simp; omega
          intro v' w2 hown' hgrow _
          have HO1 := Lib.hid hown'; have HGR := Lib.hid hgrow
          clear hown' hgrow
          go_wp2
          refine ⟨⟨t + 1, by omega, by simp only [Value.int.injEq, true_and]; omega, ?_, ?_⟩, by simp only [intOf]; omega⟩
          · rw [← Nat.add_assoc, ← HN.out, H1]; exact HO1.out
          · exact (HL.out.alloc HL.out.size _).grown HGR.out (by have := HL.out.size; simp; omega) (fun r hr => (HO.out.lt r hr).1)
        · obtain rfl : t = 8 := by omega
          go_wp2
          exact ⟨⟨k + 1, by omega, by go_num, HO.out, HL.out⟩, by simp [intOf]; omega⟩
    · obtain rfl : k = s.size := by omega
      go_wp2
      go_loopw [3] (fun v wr => ∃ N : Nat, 8 * s.size ≤ N ∧ N ≤ 6 * ((8 * s.size + 5) / 6) ∧ wr.ownsRow W.heap.size 3 1 v N (bl (sbits s) N) ∧ Below W.heap.size W wr) (fun v _ => 10000000 - sliceLen v)
      case atStart => exact ⟨8 * s.size, by omega, by omega, HO.out, HL.out⟩
      case round =>
        obtain ⟨N, hN1, hN2, hown, hbl⟩ := hrel
        obtain ⟨p, cap, rfl⟩ := own_form hown
        have HO := Lib.hid hown; have HL := Lib.hid hbl
        clear hown hbl
        by_cases h6 : N % 6 = 0
        · have t1 : ((N : Int) % 6 != 0) = false := by rw [bne_eq_false_iff_eq]; omega
          have t2 : ((N : Int).tmod 6 != 0) = false := by rw [bne_eq_false_iff_eq, Int.tmod_eq_emod_of_nonneg (by omega)]; omega
          have hE : N = 6 * ((8 * s.size + 5) / 6) := by omega
          obtain ⟨E, hE2⟩ : ∃ E, E = (8 * s.size + 5) / 6 := ⟨_, rfl⟩
          rw [← hE2] at hE
          have HE := Lib.hid hE; have HE2 := Lib.hid hE2; have H6 := Lib.hid h6
          clear hN1 hN2 hE hE2 h6
          obtain ⟨w0, rfl⟩ : ∃ w0, w0 = wr := ⟨_, rfl⟩
          have HO0 := HO; have HL0 := HL
          go_wp2
          go_loopw [6, 7, 8, 9] (fun v i _ _ w' => ∃ j a : Nat, a = 6 * j ∧ j ≤ E ∧ i = .int .i64 (a : Int) ∧ w'.ownsRow w0.heap.size 5 1 v j (u8l (en s j)) ∧ Below w0.heap.size w0 w') (fun _ i _ _ _ => N - (intOf i).toNat)
          case atStart => exact ⟨0, 0, rfl, by omega, rfl, World.ownsRow_nil _ _ _ _, Below.refl _ _⟩
          case round =>
            obtain ⟨j, a, ha, hj, rfl, hown, hbl⟩ := hrel
            have HQ := Lib.hid hown; have HB := Lib.hid hbl
            clear hown hbl
            by_cases hlt : j < E
            · have hN : N = 6 * E := HE.out
              have hN0 : 0 < N := by omega
              have g0 : (a : Int) < (N : Int) := by omega
              obtain ⟨g, cap2, hp, hgb, hgl⟩ := HO0.out.form hN0
              obtain ⟨rfl, rfl⟩ : p = some ⟨g, 0, none⟩ ∧ cap = cap2 := by
                injection hp with h1 _ h3
                exact ⟨h1, h3⟩
              have hbits := own_below HO0.out HB.out
              have hcell : ∀ i, i < N → wr.cell? ⟨g, i, none⟩ = some (.int .i64 ((sbits s i : Nat) : Int)) := fun i hi => by
                rw [hbits.cellAt i (by omega), bl_get _ _ _ hi]
              have HCELL := Lib.hid hcell
              have hNs : N < 8388616 := by
                have := HE2.out; omega
              have ha6 : a + 6 ≤ N := by omega
              have HA := Lib.hid ha; have HN := Lib.hid hN
              clear hbits hcell hp ha hN
              go_wp2
              go_loopw [8, 9] (fun m i w' => ∃ k h : Nat, k ≤ 6 ∧ i = .int .i64 (k : Int) ∧ m = .int .i64 (h : Int) ∧ h = vb (sbits s) a k ∧ wr = w') (fun _ i _ => 6 - (intOf i).toNat)
              case atStart => exact ⟨0, 0, by omega, rfl, rfl, rfl, rfl⟩
              case round =>
                obtain ⟨k, h, hk, rfl, rfl, hv, rfl⟩ := hrel
                by_cases hk6 : k < 6
                · have c1 := HCELL.out (a + k) (by omega)
                  have hvl := vb_lt (sbits s) (sbits_lt s) a k
                  have h2k : 2 ^ k ≤ 2 ^ 6 := Nat.pow_le_pow_right (by decide) (by omega)
                  have hb2 := sbits_lt s (a + k)
                  have hv1 : vb (sbits s) a (k + 1) = 2 * h + sbits s (a + k) := by rw [vb, hv]
                  obtain ⟨b, hb⟩ : ∃ b, b = sbits s (a + k) := ⟨_, rfl⟩
                  rw [← hb] at c1 hb2 hv1
                  have hh64 : h < 128 := by omega
                  obtain ⟨z, hz⟩ : ∃ z, z = a + k := ⟨_, rfl⟩
                  have q1 : (a : Int) + (k : Int) = (z : Int) := by omega
                  rw [← hz] at c1
                  have hzN : z < N := by omega
                  have HZ := Lib.hid hz; have HBB := Lib.hid hb; have HV1 := Lib.hid hv1
                  clear hz hb hv1 hv hvl h2k
                  go_wp2
                  refine ⟨⟨k + 1, 2 * h + b, by omega, by go_num, by go_num, by rw [HV1.out], by first | trivial | rfl⟩, by simp [intOf]; omega⟩
                · obtain rfl : k = 6 := by omega
                  have hvl := vb_lt (sbits s) (sbits_lt s) a 6
                  have hh64 : h < 64 := by rw [hv]; exact hvl
                  have HV := Lib.hid hv
                  clear hv hvl
                  go_wp2_with fail
                  refine (sign_t h hh64 wr).mono ?_
                  rintro e w1 ⟨rfl, rfl⟩
                  have hs6 : h = vb (sbits s) (6 * j) 6 := by rw [HV.out, HA.out]
                  obtain ⟨b, hb⟩ : ∃ b, b = sgn h := ⟨_, rfl⟩
                  rw [← hb]
                  have H1 : Hid (u8l (en s (j + 1)) = u8l (en s j) ++ [.int .u8 ((b.toNat : Nat) : Int)]) := by
                    rw [en_snoc, ← u8l_snoc, ← hs6, ← hb]; exact rfl
                  have hjb : j < 8388616 := by have := HA.out; omega
                  have HS6 := Lib.hid hs6; have HBB := Lib.hid hb
                  clear hs6 hb
                  go_wp2_with (at_builtin; refine wpList_append_own _ rfl _ _ 32 rfl w0.heap.size 5 i0 (.int .u8 0) 1 1 Try.underlying32 HI.out HZ0.out HZ1.out HZ2.out rfl (by decide) _ _ _ rfl (HQ.out.alloc _) ⟨w1.heap.size, 0, none⟩ 1 1 [.int .u8 ((b.toNat : Nat) : Int)] rfl rfl ?c1 ?c2 ?c3 ?c4 ?c5 ?_)
                  case c1 =>
                    intro j u hj
                    match j, hj with
                    | 0, hj => simp at hj; subst hj; simp [Addr.add]
                  case c2 => intro u hu; simp at hu; subst hu; rfl
                  case c3 => unfold maxLen; omega
                  case c4 => omega
                  case c5 => have := HB.out.size; simp; omega
                  intro v' w2 hown' hgrow _
                  have HO1 := Lib.hid hown'; have HGR := Lib.hid hgrow
                  clear hown' hgrow
                  go_wp2
                  refine ⟨⟨j + 1, a + 6, by have := HA.out; omega, by omega, by go_num, ?_, ?_⟩, by simp [intOf]; omega⟩
                  · rw [H1]; exact HO1.out
                  · exact (HB.out.alloc HB.out.size _).grown HGR.out (by have := HB.out.size; simp; omega) (fun r hr => (HQ.out.lt r hr).1)
            · obtain rfl : j = E := by omega
              have hN : N = 6 * j := HE.out
              obtain rfl : a = N := by omega
              have hconv := run_conv_own (P := Try.prog) 32 9 Try.underlying32 Try.underlying5 Try.underlying9 HQ.out
              have hcs : ∀ x : ByteArray, x = ⟨(en s j).toArray⟩ → x = enc s := fun x e => by rw [e, HE2.out]; rfl
              rw [hcs _ rfl] at hconv
              clear hcs hN ha
              go_wp2
              go_ret
              exact ⟨rfl, HL0.out.trans (HB.out.mono HL0.out.size)⟩
        · have t1 : ((N : Int) % 6 != 0) = true := by rw [bne_iff_ne]; omega
          have t2 : ((N : Int).tmod 6 != 0) = true := by rw [bne_iff_ne, Int.tmod_eq_emod_of_nonneg (by omega)]; omega
          have h0 : sbits s N = 0 := sbits_none s N hN1
          have H1 : Hid (bl (sbits s) (N + 1) = bl (sbits s) N ++ [.int .i64 0]) := by rw [bl_snoc, h0]; exact rfl
          have hN3 : N < 8388616 := by omega
          have hN4 : N + 1 ≤ 6 * ((8 * s.size + 5) / 6) := by omega
          have H6 := Lib.hid h6; have HN1 := Lib.hid hN1; have HN4 := Lib.hid hN4
          clear h0 hN1 hN2 h6 hN4
          go_wp2_with (at_builtin; refine wpList_append_own _ rfl _ _ 40 rfl W.heap.size 3 i3 (.int .i64 0) 1 8 Try.underlying40 HI3.out HY0.out HY1.out HY2.out rfl (by decide) _ _ _ rfl (HO.out.alloc _) ⟨wr.heap.size, 0, none⟩ 1 1 [.int .i64 0] rfl rfl ?c1 ?c2 ?c3 ?c4 ?c5 ?_)
          case c1 =>
            intro j u hj
            match j, hj with
            | 0, hj => simp at hj; subst hj; simp [Addr.add]
          case c2 => intro u hu; simp at hu; subst hu; rfl
          case c3 => unfold maxLen; omega
          case c4 => omega
          case c5 => have := HL.out.size; simp; omega
          intro v' w2 hown' hgrow _
          obtain ⟨p', cap', rfl⟩ := own_form hown'
          have HO1 := Lib.hid hown'; have HGR := Lib.hid hgrow
          clear hown' hgrow
          go_wp2
          refine ⟨⟨N + 1, by have := HN1.out; omega, HN4.out, ?_, ?_⟩, ?_⟩
          · rw [H1]; exact HO1.out
          · exact (HL.out.alloc HL.out.size _).grown HGR.out (by have := HL.out.size; simp; omega) (fun r hr => (HO.out.lt r hr).1)
          · simp only [sliceLen]; omega
end Go.Proofs.Ytgpjpdeiogopfaa
