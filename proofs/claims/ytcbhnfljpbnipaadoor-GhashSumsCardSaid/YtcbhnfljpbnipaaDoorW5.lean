/- THE WALK OF pyxisref08.Of. -/
import Derived.Test.YtcbhnfljpbnipaaDoorW1
namespace Go.Proofs.YtcbhnfljpbnipaaDoor
open Go.RowKit
attribute [local go_sem] setCell_drewN alloc_drewN
def zero128 : Array Value := bls (List.replicate 128 false)
theorem info41 : (Tryd.prog.info? 41).map (fun i => (i.zero, i.size)) = some (some (.agg zero128), 128) := by kernel_rfl
def ofBit (s : ByteArray) (i : Nat) : Bool := bits .and .u8 ((((s.data.toList.getD (i / 8) 0).toNat : Nat) : Int) / (2 : Int) ^ (7 - i % 8)) 1 == 1
theorem get_list (s : ByteArray) (i : Nat) (h : i < s.size) : s[i] = s.data.toList.getD i 0 := by
  have h' : i < s.data.toList.length := by simpa using h
  rw [List.getD_eq_getElem?_getD, List.getElem?_eq_getElem h']; rfl
def ofTo (s : ByteArray) : Nat → List Bool
  | 0 => List.replicate 128 false
  | i + 1 => (ofTo s i).set i (ofBit s i)
theorem ofTo_length (s : ByteArray) (i : Nat) : (ofTo s i).length = 128 := by
  induction i with
  | zero => rfl
  | succ i ih => simp [ofTo, ih]
set_option maxRecDepth 100000 in
set_option maxHeartbeats 400000 in
theorem of_t (w : World) (s : ByteArray) (hs : s.size = 16) :
    Calls Tryd.prog 19 #[.string s] w fun e w' => e = .returned (.agg (bls (ofTo s 128))) ∧ Below w.heap.size w w' := by
  obtain ⟨hz, hz2⟩ := zero_of_info info41
  have HS := Lib.hid hs
  clear hs
  have HZ2 := Lib.hid hz2
  clear hz2
  go_enter Tryd.func19, Tryd.ntmps19
  go_wp2
  go_loopw [4] (fun i wr => ∃ k : Nat, k ≤ 128 ∧ i = .int .i64 k ∧ wr = (w.alloc (.cells zero128 41)).alloc (.cells (bls (ofTo s k)) 41)) (fun i _ => 128 - (intOf i).toNat)
  case atStart => exact ⟨0, by omega, rfl, rfl⟩
  case round =>
    obtain ⟨i, hi, rfl, rfl⟩ := hrel
    by_cases hlt : i < 128
    · have g1 : i / 8 < s.size := by have := HS.out; omega
      have c1 := bls_get (ofTo s i) i (by rw [ofTo_length]; exact hlt)
      go_wp2
      refine ⟨⟨i + 1, by omega, by go_num, ?_⟩, by simp [intOf]; omega⟩
      rw [bls_set, get_list s _ g1]
      rfl
    · obtain rfl : i = 128 := by omega
      have hsz : (Tryd.prog.info? 41).map (·.size) = some (bls (ofTo s 128)).size := by rw [bls_size, ofTo_length]; exact HZ2.out
      have hl : zero128.size = (bls (ofTo s 128)).size := by rw [bls_size, ofTo_length]; rfl
      obtain ⟨l, hll⟩ : ∃ l, l = ofTo s 128 := ⟨_, rfl⟩
      rw [← hll] at hsz hl ⊢
      have HSZ := Lib.hid hsz; have HL := Lib.hid hl; have HLL := Lib.hid hll
      clear hsz hl hz hll
      have g0 : ((w.alloc (.cells zero128 41)).alloc (.cells (bls l) 41)).heap[w.heap.size]? = some (.cells zero128 41 (0, 0)) := (Blk.new w 41 zero128).alloc _
      have g1 : ((w.alloc (.cells zero128 41)).alloc (.cells (bls l) 41)).heap[w.heap.size + 1]? = some (.cells (bls l) 41 (0, 0)) := Blk.new_at _ 41 (bls l) (by simp)
      have G0 := Lib.hid g0; have G1 := Lib.hid g1
      clear g0 g1
      go_wp2_with (first | (refine wpList_load_row rfl 41 _ rfl (w.heap.size + 1) rfl 41 (bls l) (0, 0) _ G1.out Tryd.underlying41 rfl HSZ.out ?_) | (refine wpList_store_row rfl 41 _ _ rfl w.heap.size (bls l) rfl rfl 41 zero128 G0.out HSZ.out HL.out (bls_one l) ?_))
      refine bodyPost_ret (v := .agg (bls l)) (results_cell_row (p := 2) (ty := 41) Tryd.results19 _ _ w.heap.size 41 (bls l) (0, 0) _ rfl (setRow_heap _ _ _ _ _ _ G0.out) Tryd.underlying41 rfl HSZ.out) rfl ⟨by rw [HLL.out], below_setRow (((Below.refl _ _).alloc (Nat.le_refl _) _).alloc (by simp) _) (Nat.le_refl _) _⟩
end Go.Proofs.YtcbhnfljpbnipaaDoor
