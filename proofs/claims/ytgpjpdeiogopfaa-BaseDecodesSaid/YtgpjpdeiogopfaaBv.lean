/- THE WORDS OF THE WALKS: numbers of 64 bits as bit vectors, in the forms in which the walk writes them. No program in sight. -/
import Derived.WalkKit
import Derived.Laws.BitsAllLaws
import Derived.Laws.Rows
import Derived.Laws.BytesString
import Derived.Laws.Tables
import Derived.Laws.AppendOwn
import Derived.Deep.Draws
import Derived.Deep.WholeRow
namespace Go.Proofs.Ytgpjpdeiogopfaa

/-- A number of 64 bits as the walk's integer. Not reducible: the walk does not look into it. -/
def n64 (x : BitVec 64) : Int := (x.toNat : Int)
theorem n64_nonneg (x : BitVec 64) : 0 ≤ n64 x := Int.natCast_nonneg _
theorem n64_lt (x : BitVec 64) : n64 x < 18446744073709551616 := by have := x.isLt; unfold n64; omega
theorem n64_inj {x y : BitVec 64} (h : n64 x = n64 y) : x = y := BitVec.eq_of_toNat_eq (Int.ofNat.inj h)

theorem b64_xor (x y : BitVec 64) : bits .xor .u64 (n64 x) (n64 y) = n64 (x ^^^ y) := by
  unfold n64; rw [u64_xor_nat _ _ x.isLt y.isLt, BitVec.toNat_xor]
theorem b64_or (x y : BitVec 64) : bits .or .u64 (n64 x) (n64 y) = n64 (x ||| y) := by
  unfold n64; rw [u64_or_nat _ _ x.isLt y.isLt, BitVec.toNat_or]
theorem b64_and (x y : BitVec 64) : bits .and .u64 (n64 x) (n64 y) = n64 (x &&& y) := by
  unfold n64; rw [u64_and_nat _ _ x.isLt y.isLt, BitVec.toNat_and]
theorem b64_shr (x : BitVec 64) (k : Nat) : n64 x / (2 : Int) ^ k = n64 (x >>> k) := by
  unfold n64; rw [BitVec.toNat_ushiftRight, Nat.shiftRight_eq_div_pow]; simp
theorem b64_shr1 (x : BitVec 64) : n64 x / (2 : Int) = n64 (x >>> 1) := b64_shr x 1
theorem b64_shr4 (x : BitVec 64) : n64 x / (16 : Int) = n64 (x >>> 4) := b64_shr x 4
theorem b64_shl (x : BitVec 64) (k : Nat) : IntKind.u64.wrap (n64 x * (2 : Int) ^ k) = n64 (x <<< k) := by
  unfold n64; rw [BitVec.toNat_shiftLeft, Nat.shiftLeft_eq]; simp [IntKind.wrap, IntKind.bits, IntKind.signed]
theorem b64_shl63 (x : BitVec 64) : IntKind.u64.wrap (n64 x * 9223372036854775808) = n64 (x <<< 63) := b64_shl x 63
theorem b64_shl60 (x : BitVec 64) : IntKind.u64.wrap (n64 x * 1152921504606846976) = n64 (x <<< 60) := b64_shl x 60
theorem b64_shl48 (x : BitVec 64) : IntKind.u64.wrap (n64 x * 281474976710656) = n64 (x <<< 48) := b64_shl x 48
theorem b64_shl8 (x : BitVec 64) : IntKind.u64.wrap (n64 x * 256) = n64 (x <<< 8) := b64_shl x 8
theorem b64_xorR (x : BitVec 64) : bits .xor .u64 (n64 x) 16212958658533785600 = n64 (x ^^^ 0xe100000000000000#64) := b64_xor x 0xe100000000000000#64
theorem b64_and1 (x : BitVec 64) : bits .and .u64 (n64 x) 1 = n64 (x &&& 1#64) := b64_and x 1#64
theorem b64_and15 (x : BitVec 64) : bits .and .u64 (n64 x) 15 = n64 (x &&& 15#64) := b64_and x 15#64
theorem b64_orByte (x : BitVec 64) (b : UInt8) : bits .or .u64 (n64 x) ((b.toNat : Nat) : Int) = n64 (x ||| b.toBitVec.setWidth 64) := by
  have : ((b.toNat : Nat) : Int) = n64 (b.toBitVec.setWidth 64) := by
    unfold n64; rw [BitVec.toNat_setWidth_of_le (by decide)]; rfl
  rw [this, b64_or]
/-- a byte among numbers of 64 bits -/
theorem b64_byte (b : UInt8) : IntKind.u64.wrap ((b.toNat : Nat) : Int) = ((b.toNat : Nat) : Int) := by
  have := b.toNat_lt
  rw [IntKind.wrap_u64, Int.emod_eq_of_lt] <;> omega
/-- a sum of two small numbers does not go round -/
theorem i64_add (a b : Nat) (h : a + b < 1000000) : IntKind.i64.wrap ((a : Int) + (b : Int)) = (a : Int) + (b : Int) := by
  exact IntWalk.i64_in _ (by omega)

/-! ## Rows of cells -/
theorem setCell_drewN (w : World) (n : Nat) (a : Addr) (v : Value) : (w.drewN n).setCell a v = (w.setCell a v).drewN n := rfl
theorem alloc_drewN (w : World) (n : Nat) (o : Obj) : (w.drewN n).alloc o = (w.alloc o).drewN n := rfl

/-- bytes, as cells -/
def u8s (l : List UInt8) : Array Value := (l.map fun b => Value.int .u8 ((b.toNat : Nat) : Int)).toArray
/-- numbers of 64 bits, as cells -/
def u64s (l : List (BitVec 64)) : Array Value := (l.map fun x => Value.int .u64 (n64 x)).toArray
/-- truths, as cells -/
def bls (l : List Bool) : Array Value := (l.map Value.bool).toArray

theorem u8s_get (l : List UInt8) (k : Nat) (h : k < l.length) : (u8s l)[k]? = some (.int .u8 (((l.getD k 0).toNat : Nat) : Int)) := by
  simp [u8s, List.getD_eq_getElem?_getD, h]
theorem u8s_set (l : List UInt8) (k : Nat) (b : UInt8) : (u8s l).setIfInBounds k (.int .u8 ((b.toNat : Nat) : Int)) = u8s (l.set k b) := by
  simp [u8s, List.map_set]
theorem u8s_size (l : List UInt8) : (u8s l).size = l.length := by simp [u8s]
theorem u64s_get (l : List (BitVec 64)) (k : Nat) (h : k < l.length) : (u64s l)[k]? = some (.int .u64 (n64 (l.getD k 0))) := by
  simp [u64s, List.getD_eq_getElem?_getD, h]
theorem u64s_set (l : List (BitVec 64)) (k : Nat) (x : BitVec 64) : (u64s l).setIfInBounds k (.int .u64 (n64 x)) = u64s (l.set k x) := by
  simp [u64s, List.map_set]
theorem u64s_size (l : List (BitVec 64)) : (u64s l).size = l.length := by simp [u64s]
theorem bls_get (l : List Bool) (k : Nat) (h : k < l.length) : (bls l)[k]? = some (.bool (l.getD k false)) := by
  simp [bls, List.getD_eq_getElem?_getD, h]
theorem bls_set (l : List Bool) (k : Nat) (b : Bool) : (bls l).setIfInBounds k (.bool b) = bls (l.set k b) := by
  simp [bls, List.map_set]
theorem bls_size (l : List Bool) : (bls l).size = l.length := by simp [bls]

theorem fold_push (l : List UInt8) : ∀ s : ByteArray, (l.map fun b => (((b.toNat : Nat) : Int))).foldl (fun r n => r.push (UInt8.ofNat n.toNat)) s = ⟨s.data ++ l.toArray⟩ := by
  induction l with
  | nil => intro s; simp
  | cons b l ih =>
    intro s
    simp only [List.map_cons, List.foldl_cons, ih]
    simp [ByteArray.push]

/-- string(b[:]), b a row of bytes -/
theorem run_str_row {P : Program} (w : World) (g cap : Nat) (l : List UInt8) (t : TypeId) (f : Nat × Nat) (h : w.heap[g]? = some (.cells (u8s l) t f)) :
    (Conv.bytesToString (.slice (some ⟨g, 0, none⟩) l.length cap)).run P w = .ok (.string ⟨l.toArray⟩) w := by
  have h1 := run_loadCells_list (P := P) w ⟨g, 0, none⟩ (l.map fun b => Value.int .u8 ((b.toNat : Nat) : Int)) (fun j v hv => by
    have hadd : (⟨g, 0, none⟩ : Addr).add j = ⟨g, j, none⟩ := by unfold Addr.add; split <;> simp_all
    rw [hadd, cell_of_row w g j _ t f h]
    simpa [u8s] using hv)
  have h2 := run_bytesToString (P := P) w ⟨g, 0, none⟩ l.length cap (l.map fun b => (((b.toNat : Nat) : Int))) (by rw [List.map_map]; simpa [Function.comp_def] using h1)
  rw [h2, fold_push]
  have he : ByteArray.empty.data = #[] := rfl
  rw [he, Array.empty_append]
theorem run_conv_row {P : Program} (w : World) (g n cap : Nat) (l : List UInt8) (t : TypeId) (f : Nat × Nat) (src dst e : TypeId) (hs : P.underlying src = some (.slice e)) (he : P.underlying e = some (.int .u8)) (hd : P.underlying dst = some .string)
    (h : w.heap[g]? = some (.cells (u8s l) t f)) (hn : l.length = n) : (convert src dst (.slice (some ⟨g, 0, none⟩) n cap)).run P w = .ok (.string ⟨l.toArray⟩) w := by
  subst hn
  rw [run_convert_bytes_string w src dst e _ _ _ hs he hd, run_str_row w g cap l t f h]

/-! ## A block that is known whole -/
open Go.RowKit in
section
def Blk (w : World) (g : Nat) (t : TypeId) (cs : Array Value) : Prop := w.heap[g]? = some (.cells cs t (0, 0))
variable {w w' : World} {g : Nat} {t : TypeId} {cs : Array Value}
theorem Blk.lt (h : Blk w g t cs) : g < w.heap.size := by
  rcases Nat.lt_or_ge g w.heap.size with hlt | hge
  · exact hlt
  · unfold Blk at h; rw [Array.getElem?_eq_none hge] at h; cases h
theorem Blk.cell (h : Blk w g t cs) (i : Nat) : w.cell? ⟨g, i, none⟩ = cs[i]? := cell_of_row w g i cs t (0, 0) h
theorem Blk.frozen (h : Blk w g t cs) (i : Nat) : w.frozen? ⟨g, i, none⟩ = false := by
  unfold Blk at h
  simp [World.frozen?, h]
theorem Blk.new (w : World) (t : TypeId) (cs : Array Value) : Blk (w.alloc (.cells cs t)) w.heap.size t cs := heap_alloc_new w _
theorem Blk.new_at (w : World) (t : TypeId) (cs : Array Value) {g : Nat} (h : g = w.heap.size) : Blk (w.alloc (.cells cs t)) g t cs := h ▸ Blk.new w t cs
theorem Blk.drew (h : Blk w g t cs) : Blk w.drew g t cs := h
theorem Blk.drewN (h : Blk w g t cs) (n : Nat) : Blk (w.drewN n) g t cs := h
theorem Blk.alloc (h : Blk w g t cs) (o : Obj) : Blk (w.alloc o) g t cs := (RowKit.Below.heap_alloc w o g h.lt).trans h
theorem Blk.set_ (h : Blk w g t cs) (i : Nat) (u : Value) : Blk (w.setCell ⟨g, i, none⟩ u) g t (cs.setIfInBounds i u) := by
  unfold Blk at h ⊢
  simp [World.setCell, Array.getElem?_modify, h]
theorem Blk.far (h : Blk w g t cs) {p : Addr} (hp : g ≠ p.block) (u : Value) : Blk (w.setCell p u) g t cs := (RowKit.Below.heap_setCell w p u g hp).trans h
theorem Blk.below {B : Nat} (h : Blk w g t cs) (hb : RowKit.Below B w w') (hg : g < B) : Blk w' g t cs := (hb.block g hg).trans h
end
theorem u64s_one (l : List (BitVec 64)) : (u64s l).all (·.oneCell') = true := by
  rw [Array.all_eq_true_iff_forall_mem]
  intro x hx
  simp only [u64s, List.mem_toArray, List.mem_map] at hx
  obtain ⟨y, _, rfl⟩ := hx
  rfl
theorem bls_one (l : List Bool) : (bls l).all (·.oneCell') = true := by
  rw [Array.all_eq_true_iff_forall_mem]
  intro x hx
  simp only [bls, List.mem_toArray, List.mem_map] at hx
  obtain ⟨y, _, rfl⟩ := hx
  rfl
/-- a row stored over itself -/
theorem setRow_self {w : World} {g : Nat} {t : TypeId} {cs : Array Value} (h : w.heap[g]? = some (.cells cs t (0, 0))) : w.setRow g cs = w := by
  cases w with | mk heap tape drawn os output =>
  simp only [World.setRow, World.mk.injEq, and_true]
  apply Array.ext_getElem?
  intro k
  rw [Array.getElem?_modify]
  by_cases hk : g = k
  · subst hk
    simp only at h
    simp [h]
  · simp [hk]
theorem below_setRow {B : Nat} {a w : World} (h : RowKit.Below B a w) {g : Nat} (hg : B ≤ g) (cs : Array Value) : RowKit.Below B a (w.setRow g cs) :=
  h.trans ⟨rfl, rfl, rfl, by simp [World.setRow], fun k hk => by
    simp only [World.setRow, Array.getElem?_modify]
    rw [if_neg (by omega)]⟩
/-- bytes as values -/
def u8l (l : List UInt8) : List Value := l.map fun b => Value.int .u8 ((b.toNat : Nat) : Int)
theorem u8l_snoc (l : List UInt8) (b : UInt8) : u8l l ++ [Value.int .u8 ((b.toNat : Nat) : Int)] = u8l (l ++ [b]) := by simp [u8l]
/-- string(v), v a row of bytes of the call's own -/
theorem run_conv_own {P : Program} {w : World} {base e : Nat} {v : Value} {n : Nat} {l : List UInt8} (src dst : TypeId) (hs : P.underlying src = some (.slice e)) (he : P.underlying e = some (.int .u8)) (hd : P.underlying dst = some .string)
    (h : w.ownsRow base e 1 v n (u8l l)) : (convert src dst v).run P w = .ok (.string ⟨l.toArray⟩) w := by
  have hn : l.length = n := by have := h.1; simpa [u8l] using this
  rcases h.2 with ⟨rfl, hn0⟩ | ⟨g, cap, cur, rfl, hrest⟩
  · have : l = [] := List.eq_nil_of_length_eq_zero (by omega)
    subst this
    rw [run_convert_bytes_string w src dst e _ _ _ hs he hd]
    rfl
  · rw [run_convert_bytes_string w src dst e _ _ _ hs he hd]
    have hc := h.cells (g := g) rfl
    have h1 := run_loadCells_list (P := P) w ⟨g, 0, none⟩ (u8l l) hc
    have h2 := run_bytesToString (P := P) w ⟨g, 0, none⟩ n cap (l.map fun b => (((b.toNat : Nat) : Int))) (by rw [List.map_map]; simpa [u8l, Function.comp_def, hn] using h1)
    rw [h2, fold_push]
    have he : ByteArray.empty.data = #[] := rfl
    rw [he, Array.empty_append]
theorem bcell {W w1 : World} (hb : RowKit.Below W.heap.size W w1) : (∀ b o, b < W.heap.size → w1.cell? ⟨b, o, none⟩ = W.cell? ⟨b, o, none⟩) ∧ (∀ b o, b < W.heap.size → w1.frozen? ⟨b, o, none⟩ = W.frozen? ⟨b, o, none⟩) :=
  ⟨fun b o h => hb.cell (p := ⟨b, o, none⟩) h, fun b o h => hb.frozen (p := ⟨b, o, none⟩) h⟩
end Go.Proofs.Ytgpjpdeiogopfaa
