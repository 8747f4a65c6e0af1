/- THE WALK OF ghash.multiples. -/
import Derived.Test.YtcbhnfljpbnipaaDoorW1
namespace Go.Proofs.YtcbhnfljpbnipaaDoor
open Go.RowKit
attribute [local go_sem] b64_xor b64_or b64_and b64_shr1 b64_shr4 b64_shl63 b64_shl60 b64_shl48 b64_shl8 b64_xorR b64_and1 b64_and15 b64_orByte b64_byte setCell_drewN alloc_drewN
abbrev P2 := BitVec 64 × BitVec 64
/-- p times x, k times -/
def tmsN (p : P2) : Nat → P2
  | 0 => p
  | k + 1 => tms (tmsN p k)
def bt (k : Nat) : Nat := 8 / 2 ^ k
def put2 (l : List (BitVec 64)) (i : Nat) (p : P2) : List (BitVec 64) := (l.set (i * 2) p.1).set (i * 2 + 1) p.2
def m1 (p : P2) : Nat → List (BitVec 64)
  | 0 => List.replicate 32 0#64
  | k + 1 => put2 (m1 p k) (bt k) (tmsN p k)
theorem m1_length (p : P2) (k : Nat) : (m1 p k).length = 32 := by
  induction k with
  | zero => rfl
  | succ k ih => simp [m1, put2, ih]
def xor2 (l : List (BitVec 64)) (i j : Nat) : List (BitVec 64) := (l.set (i * 2) (l[i * 2]?.getD 0#64 ^^^ l[j * 2]?.getD 0#64)).set (i * 2 + 1) (l[i * 2 + 1]?.getD 0#64 ^^^ l[j * 2 + 1]?.getD 0#64)
/-- the inner loop's rounds at i -/
def m3 (l : List (BitVec 64)) (i : Nat) : Nat → List (BitVec 64)
  | 0 => l
  | j + 1 => if (bits .and .i64 (i : Int) (bt j : Int) != 0) && ((i : Int) != (bt j : Int)) then xor2 (m3 l i j) i (bt j) else m3 l i j
def m2 (l : List (BitVec 64)) : Nat → List (BitVec 64)
  | 0 => l
  | i + 1 => m3 (m2 l i) i 4
/-- all sixteen multiples, as cells -/
def mults (p : P2) : List (BitVec 64) := m2 (m1 p 4) 16
theorem m3_length (l : List (BitVec 64)) (i j : Nat) : (m3 l i j).length = l.length := by
  induction j with
  | zero => rfl
  | succ j ih => simp only [m3]; split <;> simp [xor2, ih]
theorem m2_length (l : List (BitVec 64)) (i : Nat) : (m2 l i).length = l.length := by
  induction i with
  | zero => rfl
  | succ i ih => simp only [m2, m3_length, ih]
set_option maxRecDepth 100000 in
set_option maxHeartbeats 1000000 in
theorem multiples_t (w : World) (hi lo : BitVec 64) :
    Calls Tryd.prog 14 #[.agg #[.int .u64 (n64 hi), .int .u64 (n64 lo)]] w fun e w' => e = .returned (.agg (u64s (mults (hi, lo)))) ∧ Below w.heap.size w w' := by
  go_enter Tryd.func14, Tryd.ntmps14
  go_wp2
  go_loopw [3] (fun i wr => ∃ k : Nat, k ≤ 4 ∧ i = .int .i64 (bt k) ∧ Below w.heap.size w wr ∧ Blk wr w.heap.size 33 #[.int .u64 (n64 (tmsN (hi, lo) k).1), .int .u64 (n64 (tmsN (hi, lo) k).2)] ∧ Blk wr (w.heap.size + 1) 34 (u64s (m1 (hi, lo) k))) (fun i _ => (intOf i).toNat)
  case atStart => exact ⟨0, by omega, rfl, ((Below.refl _ _).alloc (Nat.le_refl _) _).alloc (by simp) _, (Blk.new _ _ _).alloc _, Blk.new_at _ 34 (u64s (m1 (hi, lo) 0)) (by simp)⟩
  case round =>
    obtain ⟨k, hk, rfl, hb, h1, h2⟩ := hrel
    by_cases hlt : k < 4
    · have b0 : 0 < bt k := by rcases (by omega : k = 0 ∨ k = 1 ∨ k = 2 ∨ k = 3) with rfl | rfl | rfl | rfl <;> decide
      have b1 : bt k ≤ 8 := Nat.div_le_self _ _
      have hl := m1_length (hi, lo) k
      obtain ⟨l, hll⟩ : ∃ l, l = m1 (hi, lo) k := ⟨_, rfl⟩
      rw [← hll] at h2 hl
      obtain ⟨b, hbb⟩ : ∃ b, b = bt k := ⟨_, rfl⟩
      rw [← hbb] at b0 b1
      have e1 : (bt k / 2 : Nat) = bt (k + 1) := by unfold bt; rw [Nat.div_div_eq_div_mul, Nat.pow_succ]
      rw [← hbb] at e1 ⊢
      have c0 : wr.cell? ⟨w.heap.size, 0, none⟩ = some (.int .u64 (n64 (tmsN (hi, lo) k).1)) := h1.cell 0
      have c1 : wr.cell? ⟨w.heap.size, 1, none⟩ = some (.int .u64 (n64 (tmsN (hi, lo) k).2)) := h1.cell 1
      have f0 : ∀ i, wr.frozen? ⟨w.heap.size, i, none⟩ = false := h1.frozen
      have f1 : ∀ i, wr.frozen? ⟨w.heap.size + 1, i, none⟩ = false := h2.frozen
      have d0 := (h2.cell (b * 2)).trans (u64s_get l (b * 2) (by omega))
      have d1 := (h2.cell (b * 2 + 1)).trans (u64s_get l (b * 2 + 1) (by omega))
      have H1 := Lib.hid h1; have H2 := Lib.hid h2; have HL := Lib.hid hl; have HLL := Lib.hid hll; have HBB := Lib.hid hbb; have E1 := Lib.hid e1; have HB := Lib.hid hb
      clear h1 h2 hl hll hbb e1 hb
      go_wp2_with fail
      refine (times_t _ _ _).mono ?_
      rintro e w1 ⟨rfl, hb1⟩
      have hbs : w.heap.size + 1 < wr.heap.size := H2.out.lt
      have hbz : ((wr.setCell { block := w.heap.size + 1, off := b * 2 } (Value.int IntKind.u64 (n64 (tmsN (hi, lo) k).fst))).setCell { block := w.heap.size + 1, off := b * 2 + 1 } (Value.int IntKind.u64 (n64 (tmsN (hi, lo) k).snd))).heap.size = wr.heap.size := by simp
      rw [hbz] at hb1
      have g1 : Blk w1 w.heap.size 33 _ := ((H1.out.far (by simp) _).far (by simp) _).below hb1 (by omega)
      have g2 : Blk w1 (w.heap.size + 1) 34 (u64s (put2 l b (tmsN (hi, lo) k))) := by
        have := ((H2.out.set_ (b * 2) (.int .u64 (n64 (tmsN (hi, lo) k).1))).set_ (b * 2 + 1) (.int .u64 (n64 (tmsN (hi, lo) k).2)))
        rw [u64s_set, u64s_set] at this
        exact this.below hb1 (by omega)
      have hb2 : Below w.heap.size w w1 := ((HB.out.setCell (by simp) _).setCell (by simp) _).trans (hb1.mono (by omega))
      have c0' : w1.cell? ⟨w.heap.size, 0, none⟩ = some (.int .u64 (n64 (tmsN (hi, lo) k).1)) := g1.cell 0
      have c1' : w1.cell? ⟨w.heap.size, 1, none⟩ = some (.int .u64 (n64 (tmsN (hi, lo) k).2)) := g1.cell 1
      have f0' : ∀ i, w1.frozen? ⟨w.heap.size, i, none⟩ = false := g1.frozen
      have G1 := Lib.hid g1; have G2 := Lib.hid g2; have HB2 := Lib.hid hb2; clear g1 g2 hb2 hbz hb1 c0 c1 d0 d1 f0 f1
      clear hbs
      go_wp2
      refine ⟨⟨k + 1, by omega, by rw [← E1.out]; simp, (HB2.out.setCell (by simp) _).setCell (by simp) _, (G1.out.set_ 0 _).set_ 1 _, ?_⟩, by simp [intOf]; omega⟩
      have := (G2.out.far (p := ⟨w.heap.size, 0, none⟩) (by simp) (.int .u64 (n64 (tms ((tmsN (hi, lo) k).fst, (tmsN (hi, lo) k).snd)).fst))).far (p := ⟨w.heap.size, 1, none⟩) (by simp) (.int .u64 (n64 (tms ((tmsN (hi, lo) k).fst, (tmsN (hi, lo) k).snd)).snd))
      rw [HLL.out, HBB.out] at this
      exact this
    · obtain rfl : k = 4 := by omega
      have H2 := Lib.hid h2; have HB := Lib.hid hb
      clear h1 h2 hb hk hlt
      rw [show ((bt 4 : Nat) : Int) = 0 from rfl]
      go_wp2
      go_loopw [15] (fun i wi => ∃ k : Nat, k ≤ 16 ∧ i = .int .i64 k ∧ Below w.heap.size w wi ∧ Blk wi (w.heap.size + 1) 34 (u64s (m2 (m1 (hi, lo) 4) k))) (fun i _ => 16 - (intOf i).toNat)
      case atStart => exact ⟨0, by omega, rfl, HB.out, H2.out⟩
      case round =>
        obtain ⟨i, hi16, rfl, hb, h2⟩ := hrel
        have H2 := Lib.hid h2; have HB := Lib.hid hb
        clear h2 hb
        by_cases hlt : i < 16
        · go_wp2
          go_loopw [5] (fun t wj => ∃ j : Nat, j ≤ 4 ∧ t = .int .i64 (bt j) ∧ Below w.heap.size w wj ∧ Blk wj (w.heap.size + 1) 34 (u64s (m3 (m2 (m1 (hi, lo) 4) i) i j))) (fun t _ => (intOf t).toNat)
          case atStart => exact ⟨0, by omega, rfl, HB.out, H2.out⟩
          case round =>
            obtain ⟨j, hj, rfl, hbj, hj2⟩ := hrel
            obtain ⟨l, hll⟩ : ∃ l, l = m3 (m2 (m1 (hi, lo) 4) i) i j := ⟨_, rfl⟩
            have hl : l.length = 32 := by rw [hll, m3_length, m2_length, m1_length]
            rw [← hll] at hj2
            have J2 := Lib.hid hj2; have BJ := Lib.hid hbj; have HLL := Lib.hid hll; have HL := Lib.hid hl
            clear hj2 hbj hll hl
            by_cases hlt4 : j < 4
            · obtain ⟨b, hbb⟩ : ∃ b, b = bt j := ⟨_, rfl⟩
              have b0 : 0 < b := by rw [hbb]; rcases (by omega : j = 0 ∨ j = 1 ∨ j = 2 ∨ j = 3) with rfl | rfl | rfl | rfl <;> decide
              have b1 : b ≤ 8 := by rw [hbb]; exact Nat.div_le_self _ _
              have e1 : (b / 2 : Nat) = bt (j + 1) := by rw [hbb]; unfold bt; rw [Nat.div_div_eq_div_mul, Nat.pow_succ]
              rw [← hbb]
              have HBB := Lib.hid hbb; have E1 := Lib.hid e1
              clear hbb e1
              have ST : Hid (m3 (m2 (m1 (hi, lo) 4) i) i (j + 1) = if (bits .and .i64 (i : Int) (b : Int) != 0) && ((i : Int) != (b : Int)) then xor2 l i b else l) := by
                rw [HBB.out, HLL.out]; rfl
              cases t1 : (bits .and .i64 (i : Int) (b : Int) != 0) with
              | false =>
                go_wp2
                exact ⟨⟨j + 1, by omega, by rw [← E1.out]; simp, BJ.out, by rw [ST.out, t1]; exact J2.out⟩, by simp [intOf]; omega⟩
              | true =>
                cases t2 : ((i : Int) != (b : Int)) with
                | false =>
                  go_wp2
                  exact ⟨⟨j + 1, by omega, by rw [← E1.out]; simp, BJ.out, by rw [ST.out, t1, t2]; exact J2.out⟩, by simp [intOf]; omega⟩
                | true => 
                  have f1 : ∀ i, wr.frozen? ⟨w.heap.size + 1, i, none⟩ = false := J2.out.frozen
                  have d0 := (J2.out.cell (i * 2)).trans (u64s_get l (i * 2) (by have := HL.out; omega))
                  have d1 := (J2.out.cell (i * 2 + 1)).trans (u64s_get l (i * 2 + 1) (by have := HL.out; omega))
                  have d2 := (J2.out.cell (b * 2)).trans (u64s_get l (b * 2) (by have := HL.out; omega))
                  have d3 := (J2.out.cell (b * 2 + 1)).trans (u64s_get l (b * 2 + 1) (by have := HL.out; omega))
                  have n1 : ¬ i * 2 = b * 2 + 1 := by omega
                  go_wp2
                  go_region
                  go_wp2
                  go_region
                  go_wp2
                  refine ⟨⟨j + 1, by omega, by rw [← E1.out]; simp, ?_, ?_⟩, by simp [intOf]; omega⟩
                  · exact ((BJ.out.setCell (by simp) _).setCell (by simp) _).drew.drew
                  · rw [ST.out, t1, t2]
                    have := (J2.out.set_ (i * 2) (.int .u64 (n64 (l[i * 2]?.getD 0#64 ^^^ l[b * 2]?.getD 0#64)))).set_ (i * 2 + 1) (.int .u64 (n64 (l[i * 2 + 1]?.getD 0#64 ^^^ l[b * 2 + 1]?.getD 0#64)))
                    rw [u64s_set, u64s_set] at this
                    exact this
            · obtain rfl : j = 4 := by omega
              rw [show ((bt 4 : Nat) : Int) = 0 from rfl]
              go_wp2
              go_roundw
              case rel => exact ⟨i + 1, by omega, by go_num, BJ.out, by rw [show m2 (m1 (hi, lo) 4) (i + 1) = l from HLL.out.symm]; exact J2.out⟩
              case measure => simp [intOf]; omega
        · obtain rfl : i = 16 := by omega
          obtain ⟨l, hll⟩ : ∃ l, l = m2 (m1 (hi, lo) 4) 16 := ⟨_, rfl⟩
          have hl : l.length = 32 := by rw [hll, m2_length, m1_length]
          have h2 := H2.out
          rw [← hll] at h2
          have hsz : (Tryd.prog.info? 34).map (·.size) = some (u64s l).size := by rw [u64s_size, hl]; kernel_rfl
          have H2' := Lib.hid h2; have HLL := Lib.hid hll; have HL := Lib.hid hl; have HSZ := Lib.hid hsz
          clear h2 hll hl hsz
          go_wp2_with (first | (refine wpList_load_row rfl 34 _ rfl (w.heap.size + 1) rfl 34 (u64s l) (0, 0) _ H2'.out Tryd.underlying34 rfl HSZ.out ?_) | (refine wpList_store_row rfl 34 _ _ rfl (w.heap.size + 1) (u64s l) rfl rfl 34 (u64s l) H2'.out HSZ.out rfl (u64s_one l) ?_))
          rw [setRow_self H2'.out]
          refine bodyPost_ret (v := .agg (u64s l)) (results_cell_row (p := 2) (ty := 34) Tryd.results14 _ _ (w.heap.size + 1) 34 (u64s l) (0, 0) _ rfl H2'.out Tryd.underlying34 rfl HSZ.out) rfl ⟨?_, HB.out⟩
          rw [HLL.out]; rfl
end Go.Proofs.YtcbhnfljpbnipaaDoor
