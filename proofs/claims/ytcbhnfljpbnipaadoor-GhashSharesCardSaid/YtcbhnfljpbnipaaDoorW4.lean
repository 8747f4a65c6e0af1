/- THE CONTRACT OF ghash.Mul. -/
import Derived.Test.YtcbhnfljpbnipaaDoorW2
import Derived.Test.YtcbhnfljpbnipaaDoorW3
namespace Go.Proofs.YtcbhnfljpbnipaaDoor
open Go.RowKit
attribute [local go_sem] setCell_drewN alloc_drewN
def FoldAt (w : World) : Prop := ∀ i, i < 16 → w.cell? ⟨0, i, none⟩ = some (.int .u64 (n64 (foldL[i]?.getD 0#64)))
theorem FoldAt.pos {w : World} (h : FoldAt w) : 0 < w.heap.size := by
  have := h 0 (by decide)
  exact World.block_lt_of_cell? w _ this
theorem FoldAt.below {B : Nat} {w w' : World} (h : FoldAt w) (hb : Below B w w') (hB : 0 < B) : FoldAt w' := fun i hi => (hb.cell (p := ⟨0, i, none⟩) hB).trans (h i hi)
theorem FoldAt.alloc {w : World} (h : FoldAt w) (o : Obj) : FoldAt (w.alloc o) := fun i hi => (World.cell?_alloc_lt w o ⟨0, i, none⟩ h.pos).trans (h i hi)
/-- an element of sixteen bytes -/
def ldP (s : ByteArray) : P2 := (ldTo s 0 8, ldTo s 8 8)
/-- its bytes -/
def stB (p : P2) : ByteArray := ⟨(stTo p.1 p.2 8).toArray⟩
/-- the program's product -/
def gmul (a b : P2) : P2 := byAll (mults b) a 2
theorem mults_length (p : P2) : (mults p).length = 32 := by simp only [mults, m2_length, m1_length]
theorem hold32 {ms : List (BitVec 64)} (h : ms.length = 32) : 32 = (u64s ms).size := by rw [u64s_size, h]
set_option maxRecDepth 100000 in
set_option maxHeartbeats 1000000 in
theorem mul_ok (w : World) (a b : ByteArray) (ha : a.size = 16) (hb : b.size = 16) (hF : FoldAt w) :
    Calls Tryd.prog 9 #[.string a, .string b] w fun e w' => e = .returned (.tuple #[.string (stB (gmul (ldP a) (ldP b))), .int .i64 0]) ∧ Below w.heap.size w w' := by
  have t1 : ((a.size : Int) != 16) = false := by simp [ha]
  have t2 : ((b.size : Int) != 16) = false := by simp [hb]
  have HA := Lib.hid ha; have HB := Lib.hid hb; have HF := Lib.hid hF
  clear ha hb hF
  go_enter Tryd.func9, Tryd.ntmps9
  go_wp2_with fail
  refine (load_t _ _ HB.out).mono ?_
  rintro e w1 ⟨rfl, hb1⟩
  have HB1 := Lib.hid hb1; clear hb1
  go_wp2_with fail
  refine (multiples_t _ _ _).mono ?_
  rintro e w2 ⟨rfl, hb2⟩
  obtain ⟨ms, hms⟩ : ∃ ms, ms = mults (ldTo b 0 8, ldTo b 8 8) := ⟨_, rfl⟩
  have hml : ms.length = 32 := by rw [hms, mults_length]
  rw [← hms]
  have hsz : (Tryd.prog.info? 34).map (·.size) = some (u64s ms).size := by rw [u64s_size, hml]; kernel_rfl
  have HB2 := Lib.hid hb2; have HSZ := Lib.hid hsz; have HMS := Lib.hid hms; have HML := Lib.hid hml
  clear hb2 hsz hms hml
  go_wp2_with (refine wpList_store_row rfl 34 _ _ rfl w2.heap.size (u64s ms) rfl rfl 34 _ (heap_alloc_last w2 _) HSZ.out (by exact hold32 HML.out) (u64s_one ms) ?_)
  rw [World.setRow_alloc_new]
  refine (load_t _ _ HA.out).mono ?_
  rintro e w3 ⟨rfl, hb3⟩
  have hf3 : FoldAt w3 := (((HF.out.below HB1.out HF.out.pos).below HB2.out (Nat.lt_of_lt_of_le HF.out.pos HB1.out.size)).alloc (.cells (u64s ms) 34)).below hb3 (by simp)
  have hm3 : Blk w3 w2.heap.size 34 (u64s ms) := (Blk.new w2 34 (u64s ms)).below hb3 (by simp)
  have HF3 := Lib.hid hf3; have HM3 := Lib.hid hm3
  have hb3' : Below w.heap.size w w3 := ((HB1.out.trans (HB2.out.mono HB1.out.size)).alloc (Nat.le_trans HB1.out.size HB2.out.size) (.cells (u64s ms) 34)).trans (hb3.mono (by have := HB1.out.size; have := HB2.out.size; simp; omega))
  have HB3 := Lib.hid hb3'
  clear hf3 hm3 hb3 hb3'
  go_wp2_with fail
  refine (by_t _ _ _ _ ms HML.out HM3.out HF3.out).mono ?_
  rintro e w4 ⟨rfl, hb4⟩
  have HB4 := Lib.hid hb4
  clear hb4
  go_wp2_with fail
  refine (store_t _ _ _).mono ?_
  rintro e w5 ⟨rfl, hb5⟩
  have HB5 := Lib.hid hb5
  clear hb5
  go_wp2_with fail
  go_ret2
  refine ⟨?_, (HB3.out.trans (HB4.out.mono HB3.out.size)).trans (HB5.out.mono (Nat.le_trans HB3.out.size HB4.out.size))⟩
  rw [HMS.out]
  rfl
theorem mul_bad (w : World) (a b : ByteArray) (h : ¬ (a.size = 16 ∧ b.size = 16)) :
    Calls Tryd.prog 9 #[.string a, .string b] w fun e w' => e = .returned (.tuple #[.string ⟨#[]⟩, .int .i64 6]) ∧ Below w.heap.size w w' := by
  by_cases ha : a.size = 16
  · have hb : ¬ b.size = 16 := fun hb => h ⟨ha, hb⟩
    have t1 : ((a.size : Int) != 16) = false := by simp [ha]
    have t2 : ((b.size : Int) != 16) = true := by simp; omega
    clear h ha hb
    go_enter Tryd.func9, Tryd.ntmps9
    go_wp2_with fail
    go_ret2
    exact ⟨rfl, Below.refl _ _⟩
  · have t1 : ((a.size : Int) != 16) = true := by simp; omega
    clear h ha
    go_enter Tryd.func9, Tryd.ntmps9
    go_wp2_with fail
    go_ret2
    exact ⟨rfl, Below.refl _ _⟩
end Go.Proofs.YtcbhnfljpbnipaaDoor
