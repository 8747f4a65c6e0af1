/- THE WALK OF pyxisref08.Times. -/
import Derived.Test.YtcbhnfljpbnipaaDoorW5
namespace Go.Proofs.YtcbhnfljpbnipaaDoor
open Go.RowKit
attribute [local go_sem] setCell_drewN alloc_drewN
def zero255 : Array Value := bls (List.replicate 255 false)
theorem info50 : (Tryd.prog.info? 50).map (fun i => (i.zero, i.size)) = some (some (.agg zero255), 255) := by kernel_rfl
/-- the inner loop's rounds -/
def inn (p b : List Bool) (i : Nat) : Nat → List Bool
  | 0 => p
  | k + 1 => (inn p b i k).set (i + k) ((inn p b i k)[i + k]?.getD false != b[k]?.getD false)
def t1 (a b : List Bool) : Nat → List Bool
  | 0 => List.replicate 255 false
  | i + 1 => if a[i]?.getD false then inn (t1 a b i) b i 128 else t1 a b i
def flips (p : List Bool) (i : Nat) : List Bool :=
  (((p.set (i - 128) (!p[i - 128]?.getD false)).set (i - 127) (!p[i - 127]?.getD false)).set (i - 126) (!p[i - 126]?.getD false)).set (i - 121) (!p[i - 121]?.getD false)
def red (p : List Bool) : Nat → List Bool
  | 0 => p
  | j + 1 => if (red p j)[254 - j]?.getD false then flips (red p j) (254 - j) else red p j
def outTo (p : List Bool) : Nat → List Bool
  | 0 => List.replicate 128 false
  | i + 1 => (outTo p i).set i (p[i]?.getD false)
theorem inn_length (p b : List Bool) (i k : Nat) : (inn p b i k).length = p.length := by
  induction k with
  | zero => rfl
  | succ k ih => simp [inn, ih]
theorem t1_length (a b : List Bool) (i : Nat) : (t1 a b i).length = 255 := by
  induction i with
  | zero => exact List.length_replicate ..
  | succ i ih => simp only [t1]; split <;> simp [inn_length, ih]
theorem red_length (p : List Bool) (j : Nat) : (red p j).length = p.length := by
  induction j with
  | zero => rfl
  | succ j ih => simp only [red]; split <;> simp [flips, ih]
theorem outTo_length (p : List Bool) (j : Nat) : (outTo p j).length = 128 := by
  induction j with
  | zero => rfl
  | succ j ih => simp [outTo, ih]
def timesR (a b : List Bool) : List Bool := outTo (red (t1 a b 128) 127) 128
set_option maxRecDepth 100000 in
set_option maxHeartbeats 1000000 in
theorem timesR_t (w : World) (a b : List Bool) (ha : a.length = 128) (hb : b.length = 128) :
    Calls Tryd.prog 18 #[.agg (bls a), .agg (bls b)] w fun e w' => e = .returned (.agg (bls (timesR a b))) ∧ Below w.heap.size w w' := by
  obtain ⟨hz, hz2⟩ := zero_of_info info41
  obtain ⟨hy, hy2⟩ := zero_of_info info50
  have HA := Lib.hid ha; have HB := Lib.hid hb
  have HZ2 := Lib.hid hz2
  clear hz2 ha hb hy2
  go_enter Tryd.func18, Tryd.ntmps18
  go_wp2
  go_loopw [6] (fun i wr => ∃ k : Nat, k ≤ 128 ∧ i = .int .i64 k ∧ ∃ q, wr = ((((w.alloc (.cells (bls a) 41)).alloc (.cells (bls b) 41)).alloc (.cells zero128 41)).alloc (.cells (bls (t1 a b k)) 50)).drewN q) (fun i _ => 128 - (intOf i).toNat)
  case atStart => exact ⟨0, by omega, rfl, 0, rfl⟩
  case round =>
    obtain ⟨i, hi, rfl, q, rfl⟩ := hrel
    by_cases hlt : i < 128
    · have c1 := bls_get a i (by have := HA.out; omega)
      rw [List.getD_eq_getElem?_getD] at c1
      obtain ⟨p0, hp0⟩ : ∃ p0, p0 = t1 a b i := ⟨_, rfl⟩
      have hst : t1 a b (i + 1) = if a[i]?.getD false then inn p0 b i 128 else p0 := by rw [hp0]; rfl
      have hpl : p0.length = 255 := by rw [hp0, t1_length]
      rw [← hp0]
      have HP0 := Lib.hid hp0; have HST := Lib.hid hst; have HPL := Lib.hid hpl
      clear hp0 hst hpl
      cases hai : a[i]?.getD false with
      | false =>
        rw [hai] at c1
        have HAI := Lib.hid hai
        clear hai
        go_wp2
        go_loopw [7] (fun t wr => t = .int .i64 0 ∧ wr = ((((w.alloc (.cells (bls a) 41)).alloc (.cells (bls b) 41)).alloc (.cells zero128 41)).alloc (.cells (bls p0) 50)).drewN q) (fun _ _ => 0)
        case atStart => exact ⟨rfl, rfl⟩
        case round =>
          obtain ⟨rfl, rfl⟩ := hrel
          go_wp2
          go_roundw
          case rel => exact ⟨i + 1, by omega, by go_num, q, by rw [HST.out, HAI.out]; rfl⟩
          case measure => simp [intOf]; omega
      | true =>
        rw [hai] at c1
        have HAI := Lib.hid hai
        clear hai
        go_wp2
        go_loopw [7] (fun t wr => ∃ k : Nat, k ≤ 128 ∧ t = .int .i64 k ∧ ∃ q, wr = ((((w.alloc (.cells (bls a) 41)).alloc (.cells (bls b) 41)).alloc (.cells zero128 41)).alloc (.cells (bls (inn p0 b i k)) 50)).drewN q) (fun t _ => 128 - (intOf t).toNat)
        case atStart => exact ⟨0, by omega, rfl, q, rfl⟩
        case round =>
          obtain ⟨k, hk, rfl, q', rfl⟩ := hrel
          by_cases hlk : k < 128
          · obtain ⟨p, hp⟩ : ∃ p, p = inn p0 b i k := ⟨_, rfl⟩
            have hpl : p.length = 255 := by rw [hp, inn_length, HPL.out]
            have hst : inn p0 b i (k + 1) = p.set (i + k) (p[i + k]?.getD false != b[k]?.getD false) := by rw [hp]; rfl
            have c2 := bls_get p (i + k) (by omega)
            have c3 := bls_get b k (by have := HB.out; omega)
            rw [← hp]
            have tk : decide ((k : Int) < 128) = true := by simp; omega
            have e1 : IntKind.i64.wrap ((i : Int) + (k : Int)) = (i : Int) + (k : Int) := i64_add i k (by omega)
            have e2 : 0 ≤ (i : Int) + (k : Int) := by omega
            have e3 : ((i : Int) + (k : Int)).toNat = i + k := by omega
            have e4 : (i : Int) + (k : Int) < 255 := by omega
            have HP := Lib.hid hp; have HPL' := Lib.hid hpl; have HST' := Lib.hid hst
            clear hp hpl hst
            go_wp2
            go_region
            go_wp2
            have hx : ∀ x y : Bool, (!(x == y)) = (x != y) := by decide
            refine ⟨⟨k + 1, by omega, by go_num, q' + 1, ?_⟩, by simp [intOf]; omega⟩
            rw [HST'.out, hx, bls_set]
          · obtain rfl : k = 128 := by omega
            go_wp2
            go_roundw
            case rel => exact ⟨i + 1, by omega, by go_num, q', by rw [HST.out, HAI.out]; rfl⟩
            case measure => simp [intOf]; omega
    · obtain rfl : i = 128 := by omega
      go_wp2
      obtain ⟨p0, hp0⟩ : ∃ p0, p0 = t1 a b 128 := ⟨_, rfl⟩
      have hpl : p0.length = 255 := by rw [hp0, t1_length]
      rw [← hp0]
      have HP0 := Lib.hid hp0; have HPL := Lib.hid hpl
      clear hp0 hpl
      go_loopw [8] (fun t wr => ∃ j i : Nat, j ≤ 127 ∧ i + j = 254 ∧ t = .int .i64 i ∧ ∃ q, wr = ((((w.alloc (.cells (bls a) 41)).alloc (.cells (bls b) 41)).alloc (.cells zero128 41)).alloc (.cells (bls (red p0 j)) 50)).drewN q) (fun t _ => (intOf t).toNat)
      case atStart => exact ⟨0, 254, by omega, by omega, rfl, q, rfl⟩
      case round =>
        obtain ⟨j, i, hj, hij, rfl, q, rfl⟩ := hrel
        by_cases hlt : j < 127
        · have i1 : 128 ≤ i := by omega
          have i2 : i ≤ 254 := by omega
          obtain ⟨p, hp⟩ : ∃ p, p = red p0 j := ⟨_, rfl⟩
          have hpl : p.length = 255 := by rw [hp, red_length, HPL.out]
          have hst : red p0 (j + 1) = if p[i]?.getD false then flips p i else p := by
            have : i = 254 - j := by omega
            rw [hp, this]; rfl
          have c0 := bls_get p i (by omega)
          have c1 := bls_get p (i - 128) (by omega)
          have c2 := bls_get p (i - 127) (by omega)
          have c3 := bls_get p (i - 126) (by omega)
          have c4 := bls_get p (i - 121) (by omega)
          rw [List.getD_eq_getElem?_getD] at c0
          rw [← hp]
          have HP := Lib.hid hp; have HPL' := Lib.hid hpl; have HST := Lib.hid hst; have HIJ := Lib.hid hij
          clear hp hpl hst hij
          have n1 : ¬ i - 128 = i - 127 := by omega
          have n2 : ¬ i - 128 = i - 126 := by omega
          have n3 : ¬ i - 127 = i - 126 := by omega
          have n4 : ¬ i - 128 = i - 121 := by omega
          have n5 : ¬ i - 127 = i - 121 := by omega
          have n6 : ¬ i - 126 = i - 121 := by omega
          cases hpi : p[i]?.getD false with
          | false =>
            rw [hpi] at c0
            have HPI := Lib.hid hpi
            clear hpi n1 n2 n3 n4 n5 n6 c1 c2 c3 c4
            go_wp2
            refine ⟨⟨j + 1, i - 1, by omega, by have := HIJ.out; omega, ?_, q, ?_⟩, by simp [intOf]; omega⟩
            · rw [show ((i : Int) - 1) = ((i - 1 : Nat) : Int) from by omega]
            · rw [HST.out, HPI.out]; rfl
          | true =>
            rw [hpi] at c0
            have HPI := Lib.hid hpi
            clear hpi n1 n2 n3 n4 n5 n6 c1 c2 c3 c4
            obtain ⟨m, rfl⟩ : ∃ m, i = m + 128 := ⟨i - 128, by omega⟩
            have c1 := bls_get p m (by have := HPL'.out; omega)
            have c2 := bls_get p (m + 1) (by have := HPL'.out; omega)
            have c3 := bls_get p (m + 2) (by have := HPL'.out; omega)
            have c4 := bls_get p (m + 7) (by have := HPL'.out; omega)
            have r1 : ((m : Int) + 128 - 128) = (m : Int) := by omega
            have r2 : ((m : Int) + 128 - 127) = (m : Int) + 1 := by omega
            have r3 : ((m : Int) + 128 - 126) = (m : Int) + 2 := by omega
            have r4 : ((m : Int) + 128 - 121) = (m : Int) + 7 := by omega
            have r5 : ((m : Int) + 128 - 1) = (m : Int) + 127 := by omega
            go_wp2
            refine ⟨⟨j + 1, m + 127, by omega, by have := HIJ.out; omega, ?_, q, ?_⟩, by simp [intOf]; omega⟩
            · rw [show ((m : Int) + 127) = ((m + 127 : Nat) : Int) from by omega]
            · rw [HST.out, HPI.out, bls_set, bls_set, bls_set, bls_set]; rfl
        · obtain rfl : j = 127 := by omega
          obtain rfl : i = 127 := by omega
          go_wp2
          obtain ⟨p, hp⟩ : ∃ p, p = red p0 127 := ⟨_, rfl⟩
          have hpl : p.length = 255 := by rw [hp, red_length, HPL.out]
          rw [← hp]
          have HP := Lib.hid hp; have HPL' := Lib.hid hpl
          clear hp hpl hj hlt
          go_loopw [10] (fun t wr => ∃ k : Nat, k ≤ 128 ∧ t = .int .i64 k ∧ wr = (((((w.alloc (.cells (bls a) 41)).alloc (.cells (bls b) 41)).alloc (.cells zero128 41)).alloc (.cells (bls p) 50)).alloc (.cells (bls (outTo p k)) 41)).drewN q) (fun t _ => 128 - (intOf t).toNat)
          case atStart => exact ⟨0, by omega, rfl, rfl⟩
          case round =>
            obtain ⟨k, hk, rfl, rfl⟩ := hrel
            by_cases hlk : k < 128
            · have c1 := bls_get p k (by have := HPL'.out; omega)
              have c2 := bls_get (outTo p k) k (by rw [outTo_length]; exact hlk)
              rw [List.getD_eq_getElem?_getD] at c1
              go_wp2
              exact ⟨⟨k + 1, by omega, by go_num, by rw [bls_set]; rfl⟩, by simp [intOf]; omega⟩
            · obtain rfl : k = 128 := by omega
              have hsz : (Tryd.prog.info? 41).map (·.size) = some (bls (outTo p 128)).size := by rw [bls_size, outTo_length]; exact HZ2.out
              have hl : zero128.size = (bls (outTo p 128)).size := by rw [bls_size, outTo_length]; rfl
              obtain ⟨l, hll⟩ : ∃ l, l = outTo p 128 := ⟨_, rfl⟩
              rw [← hll] at hsz hl ⊢
              have HSZ := Lib.hid hsz; have HL := Lib.hid hl; have HLL := Lib.hid hll
              clear hsz hl hz hy hll
              obtain ⟨W, hW⟩ : ∃ W, W = (((w.alloc (.cells (bls a) 41)).alloc (.cells (bls b) 41)).alloc (.cells zero128 41)).alloc (.cells (bls p) 50) := ⟨_, rfl⟩
              have hWs : W.heap.size = w.heap.size + 1 + 1 + 1 + 1 := by rw [hW]; simp
              have hWb : Below w.heap.size w W := by
                rw [hW]
                exact ((((Below.refl _ _).alloc (Nat.le_refl _) _).alloc (by simp) _).alloc (by simp; omega) _).alloc (by simp; omega) _
              have g0 : Blk ((W.alloc (.cells (bls l) 41)).drewN q) (w.heap.size + 1 + 1) 41 zero128 := by
                refine Blk.drewN (Blk.alloc ?_ _) q
                rw [hW]
                exact (Blk.new_at _ 41 zero128 (by simp)).alloc _
              have g1 : Blk ((W.alloc (.cells (bls l) 41)).drewN q) (w.heap.size + 1 + 1 + 1 + 1) 41 (bls l) := (Blk.new_at W 41 (bls l) hWs.symm).drewN q
              have gb : Below w.heap.size w ((W.alloc (.cells (bls l) 41)).drewN q) := below_drewN (hWb.alloc (by omega) _) q
              rw [← hW]
              have G0 := Lib.hid g0; have G1 := Lib.hid g1; have GB := Lib.hid gb
              clear g0 g1 gb hWb hWs hW
              obtain ⟨V, hV⟩ : ∃ V, V = (W.alloc (.cells (bls l) 41)).drewN q := ⟨_, rfl⟩
              rw [← hV] at G0 G1 GB ⊢
              clear hV
              go_wp2_with (first | (refine wpList_load_row rfl 41 _ rfl (w.heap.size + 1 + 1 + 1 + 1) rfl 41 (bls l) (0, 0) _ G1.out Tryd.underlying41 rfl HSZ.out ?_) | (refine wpList_store_row rfl 41 _ _ rfl (w.heap.size + 1 + 1) (bls l) rfl rfl 41 zero128 G0.out HSZ.out HL.out (bls_one l) ?_))
              refine bodyPost_ret (v := .agg (bls l)) (results_cell_row (p := 4) (ty := 41) Tryd.results18 _ _ (w.heap.size + 1 + 1) 41 (bls l) (0, 0) _ rfl (setRow_heap _ _ _ _ _ _ G0.out) Tryd.underlying41 rfl HSZ.out) rfl ⟨by rw [HLL.out, HP.out, HP0.out]; rfl, below_setRow GB.out (by omega) _⟩
end Go.Proofs.YtcbhnfljpbnipaaDoor
