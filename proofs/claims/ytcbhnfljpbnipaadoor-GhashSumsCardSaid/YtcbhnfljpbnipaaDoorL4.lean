/- THE WALK OF ghash.Sum. -/
import Derived.Test.YtcbhnfljpbnipaaDoorL1
namespace Go.Proofs.YtcbhnfljpbnipaaDoor
open Go.RowKit
attribute [local go_sem] setCell_drewN alloc_drewN b64_xor
theorem FoldAt.setCell {w : World} (h : FoldAt w) {p : Addr} (hp : p.block ≠ 0) (u : Value) : FoldAt (w.setCell p u) := fun i hi =>
  (World.cell?_setCell_other w p ⟨0, i, none⟩ u (fun e => hp (by rw [e]))).trans (h i hi)
/-- block number k of a text -/
def blkOf (s : ByteArray) (k : Nat) : ByteArray := s.extract (16 * k) (16 * k + 16)
theorem blkOf_size (s : ByteArray) (k : Nat) (h : 16 * k + 16 ≤ s.size) : (blkOf s k).size = 16 := by
  unfold blkOf; rw [ByteArray.size_extract]; omega
/-- the sum over the first k blocks -/
def sumTo (key s : ByteArray) : Nat → P2
  | 0 => (0#64, 0#64)
  | k + 1 => gmul (xorP (sumTo key s k) (ldP (blkOf s k))) (ldP key)
set_option maxRecDepth 100000 in
set_option maxHeartbeats 1000000 in
theorem sum_ok (w : World) (key s : ByteArray) (n : Nat) (hk : key.size = 16) (hs : s.size = 16 * n) (hn : n ≤ 13125) (hF : FoldAt w) :
    Calls Tryd.prog 12 #[.string key, .string s] w fun e w' => e = .returned (.tuple #[.string (stB (sumTo key s n)), .int .i64 0]) ∧ Below w.heap.size w w' := by
  have t1 : ((key.size : Int) != 16) = false := by simp [hk]
  have t2 : ((s.size : Int) % 16 != 0) = false := by simp [hs]
  have t3 : decide ((210000 : Int) < (s.size : Int)) = false := by simp [hs]; omega
  have HK := Lib.hid hk; have HS := Lib.hid hs; have HF := Lib.hid hF
  clear hk hs hF
  go_enter Tryd.func12, Tryd.ntmps12
  go_wp2_with fail
  refine (load_t _ _ HK.out).mono ?_
  rintro e w1 ⟨rfl, hb1⟩
  have HB1 := Lib.hid hb1; clear hb1
  go_wp2_with fail
  refine (multiples_t _ _ _).mono ?_
  rintro e w2 ⟨rfl, hb2⟩
  obtain ⟨ms, hms⟩ : ∃ ms, ms = mults (ldTo key 0 8, ldTo key 8 8) := ⟨_, rfl⟩
  have hml : ms.length = 32 := by rw [hms, mults_length]
  rw [← hms]
  have hsz : (Tryd.prog.info? 34).map (·.size) = some (u64s ms).size := by rw [u64s_size, hml]; kernel_rfl
  have HB2 := Lib.hid hb2; have HSZ := Lib.hid hsz; have HMS := Lib.hid hms; have HML := Lib.hid hml
  clear hb2 hsz hms hml
  go_wp2_with (refine wpList_store_row rfl 34 _ _ rfl w2.heap.size (u64s ms) rfl rfl 34 _ (heap_alloc_last w2 _) HSZ.out (by exact hold32 HML.out) (u64s_one ms) ?_)
  rw [World.setRow_alloc_new]
  obtain ⟨gm, hgm⟩ : ∃ gm, gm = w2.heap.size := ⟨_, rfl⟩
  have hB2 : Below w.heap.size w w2 := HB1.out.trans (HB2.out.mono HB1.out.size)
  have hF2 : FoldAt w2 := (HF.out.below HB1.out HF.out.pos).below HB2.out (Nat.lt_of_lt_of_le HF.out.pos HB1.out.size)
  have hgw : w.heap.size ≤ gm := by rw [hgm]; exact hB2.size
  have b0 : Below w.heap.size w ((w2.alloc (.cells (u64s ms) 34)).alloc (.cells #[.int .u64 0, .int .u64 0] 33)) := (hB2.alloc hB2.size _).alloc (by have := hB2.size; simp; omega) _
  have f0 : FoldAt ((w2.alloc (.cells (u64s ms) 34)).alloc (.cells #[.int .u64 0, .int .u64 0] 33)) := (hF2.alloc _).alloc _
  have m0 : Blk ((w2.alloc (.cells (u64s ms) 34)).alloc (.cells #[.int .u64 0, .int .u64 0] 33)) gm 34 (u64s ms) := (Blk.new_at w2 34 (u64s ms) hgm).alloc _
  have z0 : Blk ((w2.alloc (.cells (u64s ms) 34)).alloc (.cells #[.int .u64 0, .int .u64 0] 33)) (gm + 1) 33 #[.int .u64 (n64 (sumTo key s 0).1), .int .u64 (n64 (sumTo key s 0).2)] := Blk.new_at _ 33 _ (by simp [hgm])
  rw [← hgm]
  have B0 := Lib.hid b0; have F0 := Lib.hid f0; have M0 := Lib.hid m0; have Z0 := Lib.hid z0
  clear b0 f0 m0 z0 hB2 hF2 hgm
  generalize (w2.alloc (.cells (u64s ms) 34)).alloc (.cells #[.int .u64 0, .int .u64 0] 33) = V at *
  go_loopw [8] (fun t wr => ∃ k : Nat, k ≤ n ∧ t = .int .i64 ((16 * k : Nat) : Int) ∧ Below w.heap.size w wr ∧ FoldAt wr ∧ Blk wr gm 34 (u64s ms) ∧ Blk wr (gm + 1) 33 #[.int .u64 (n64 (sumTo key s k).1), .int .u64 (n64 (sumTo key s k).2)]) (fun t _ => 16 * n - (intOf t).toNat)
  case atStart => exact ⟨0, by omega, rfl, B0.out, F0.out, M0.out, Z0.out⟩
  case round =>
    obtain ⟨k, hk, rfl, hb, hf, hm, hz⟩ := hrel
    obtain ⟨z, hzz⟩ : ∃ z, z = sumTo key s k := ⟨_, rfl⟩
    have hst : sumTo key s (k + 1) = gmul (xorP z (ldP (blkOf s k))) (ldP key) := by rw [hzz]; rfl
    rw [← hzz] at hz
    obtain ⟨zh, zl⟩ := z
    have HB := Lib.hid hb; have HFr := Lib.hid hf; have HM := Lib.hid hm; have HZ := Lib.hid hz; have HZZ := Lib.hid hzz; have HST := Lib.hid hst
    clear hb hf hm hz hzz hst
    by_cases hlt : k < n
    · have g1 : 16 * k + 16 ≤ s.size := by have := HS.out; omega
      have hbs := blkOf_size s k g1
      obtain ⟨x, hx⟩ : ∃ x, x = blkOf s k := ⟨_, rfl⟩
      have HX := Lib.hid hx; have HBS := Lib.hid hbs
      clear hx hbs
      have t4 : decide (((16 * k : Nat) : Int) < (s.size : Int)) = true := by simp; omega
      go_wp2_with fail
      rw [show s.extract (16 * k) (16 * k + 16) = x from HX.out.symm]
      refine (load_t _ x (by rw [HX.out]; exact HBS.out)).mono ?_
      rintro e v1 ⟨rfl, hb1⟩
      have hz1 := HZ.out.below hb1 HZ.out.lt
      have hm1 := HM.out.below hb1 HM.out.lt
      have hf1 := HFr.out.below hb1 HFr.out.pos
      have hl1 : gm + 1 < v1.heap.size := hz1.lt
      have hB1 := HB.out.trans (hb1.mono HB.out.size)
      have c0 : v1.cell? ⟨gm + 1, 0, none⟩ = some (.int .u64 (n64 zh)) := hz1.cell 0
      have c1 : v1.cell? ⟨gm + 1, 1, none⟩ = some (.int .u64 (n64 zl)) := hz1.cell 1
      have HZ1 := Lib.hid hz1; have HM1 := Lib.hid hm1; have HF1 := Lib.hid hf1; have HBv := Lib.hid hB1
      clear hz1 hm1 hf1 hb1 hB1
      go_wp2_with fail
      refine (by_t _ _ _ gm ms HML.out (HM1.out.alloc _) (HF1.out.alloc _)).mono ?_
      rintro e v2 ⟨rfl, hb2⟩
      rw [World.size_alloc] at hb2
      have hz2 := (HZ1.out.alloc (.cells #[.int .u64 (n64 (ldTo x 0 8)), .int .u64 (n64 (ldTo x 8 8))] 33)).below hb2 (by omega)
      have hm2 := (HM1.out.alloc (.cells #[.int .u64 (n64 (ldTo x 0 8)), .int .u64 (n64 (ldTo x 8 8))] 33)).below hb2 (by omega)
      have hf2 := (HF1.out.alloc (.cells #[.int .u64 (n64 (ldTo x 0 8)), .int .u64 (n64 (ldTo x 8 8))] 33)).below hb2 (by omega)
      have hB2 := (HBv.out.alloc HBv.out.size (.cells #[.int .u64 (n64 (ldTo x 0 8)), .int .u64 (n64 (ldTo x 8 8))] 33)).trans (hb2.mono (by have := HBv.out.size; omega))
      have c0' : v2.cell? ⟨gm + 1, 0, none⟩ = some (.int .u64 (n64 zh)) := hz2.cell 0
      have c1' : v2.cell? ⟨gm + 1, 1, none⟩ = some (.int .u64 (n64 zl)) := hz2.cell 1
      have fz : ∀ i, v2.frozen? ⟨gm + 1, i, none⟩ = false := hz2.frozen
      have hr : byAll ms (zh ^^^ ldTo x 0 8, zl ^^^ ldTo x 8 8) 2 = sumTo key s (k + 1) := by
        rw [HST.out, HMS.out, ← HX.out]; rfl
      rw [hr]
      obtain ⟨r, hrr⟩ : ∃ r, r = sumTo key s (k + 1) := ⟨_, rfl⟩
      rw [← hrr]
      have HZ2 := Lib.hid hz2; have HM2 := Lib.hid hm2; have HF2 := Lib.hid hf2; have HBw := Lib.hid hB2; have HRR := Lib.hid hrr
      clear hz2 hm2 hf2 hB2 hr hb2 hrr c0 c1
      go_wp2
      refine ⟨⟨k + 1, by omega, ?_, (HBw.out.setCell (by show w.heap.size ≤ gm + 1; omega) _).setCell (by show w.heap.size ≤ gm + 1; omega) _, (HF2.out.setCell (by simp) _).setCell (by simp) _, (HM2.out.far (by simp) _).far (by simp) _, ?_⟩, ?_⟩
      · rw [show ((16 * (k + 1) : Nat) : Int) = 16 * (k : Int) + 16 from by omega]
      · rw [← HRR.out]; exact (HZ2.out.set_ 0 _).set_ 1 _
      · simp only [intOf]; omega
    · obtain rfl : k = n := by omega
      have t4 : decide (16 * (k : Int) < (s.size : Int)) = false := by have := HS.out; simp; omega
      have t5 : (s.size : Int) ≤ 16 * (k : Int) := by have := HS.out; omega
      have c0 : wr.cell? ⟨gm + 1, 0, none⟩ = some (.int .u64 (n64 zh)) := HZ.out.cell 0
      have c1 : wr.cell? ⟨gm + 1, 1, none⟩ = some (.int .u64 (n64 zl)) := HZ.out.cell 1
      go_wp2_with fail
      refine (store_t _ _ _).mono ?_
      rintro e v1 ⟨rfl, hb1⟩
      have HBv := Lib.hid (HB.out.trans (hb1.mono HB.out.size)); clear hb1
      go_wp2_with fail
      go_ret2
      exact ⟨by rw [← HZZ.out]; rfl, HBv.out⟩
end Go.Proofs.YtcbhnfljpbnipaaDoor
