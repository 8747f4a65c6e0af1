/- THE SUM that octet.Add makes, and a row that a conversion has made. -/
import Derived.Test.YtooakkelinaelaaW7
import Derived.Lib.ConvBytes
namespace Go.Proofs.Ytooakkelinaelaa
open Go.RowKit
/-! ## A block that bears a mark behind its end -/
def BlkF (w : World) (g : Nat) (cs : Array Value) : Prop := w.heap[g]? = some (.cells cs 5 (cs.size, cs.size + 1))
section
variable {w w' : World} {g : Nat} {cs : Array Value}
theorem BlkF.cell (h : BlkF w g cs) (i : Nat) : w.cell? ⟨g, i, none⟩ = cs[i]? := cell_of_row w g i cs 5 _ h
theorem BlkF.frozen (h : BlkF w g cs) (i : Nat) (hi : i < cs.size) : w.frozen? ⟨g, i, none⟩ = false := by
  unfold BlkF at h
  simp [World.frozen?, h]
  omega
theorem BlkF.lt (h : BlkF w g cs) : g < w.heap.size := by
  rcases Nat.lt_or_ge g w.heap.size with hlt | hge
  · exact hlt
  · unfold BlkF at h; rw [Array.getElem?_eq_none hge] at h; cases h
theorem BlkF.drewN (h : BlkF w g cs) (n : Nat) : BlkF (w.drewN n) g cs := h
theorem BlkF.set_ (h : BlkF w g cs) (i : Nat) (u : Value) : BlkF (w.setCell ⟨g, i, none⟩ u) g (cs.setIfInBounds i u) := by
  unfold BlkF at h ⊢
  simp [World.setCell, Array.getElem?_modify, h]
end
/-- []byte(s) -/
def bw (w : World) (s : ByteArray) : World := Lib.bytesWorld w 5 s
theorem run_bytes (w : World) (s : ByteArray) : ∃ cap r, (convert 9 44 (.string s)).run Try.prog w = .ok (.slice (some ⟨w.heap.size, 0, none⟩) s.size cap) (bw w s) ∧ BlkF (bw w s) w.heap.size (u8s (s.data.toList ++ zeros r)) := by
  refine ⟨_, grownCap w s.size 0 5 - s.size, Lib.run_convert_string_bytes (P := Try.prog) w 9 44 5 s Try.underlying9 Try.underlying44 Try.underlying5, ?_⟩
  have h := Lib.bytesWorld_at_new w 5 s
  have hc : Lib.bytesCells w 5 s = u8s (s.data.toList ++ zeros (grownCap w s.size 0 5 - s.size)) := by
    unfold Lib.bytesCells u8s zeros
    apply Array.toList_inj.1
    simp
  rw [hc] at h
  exact h
theorem below_bw (w : World) (s : ByteArray) : Below w.heap.size w (bw w s) :=
  ⟨rfl, rfl, rfl, by unfold bw; rw [Lib.bytesWorld_size]; omega, fun k hk => Lib.bytesWorld_at_old w 5 s k hk⟩
/-- string(b[:n]), the first of a row's bytes -/
theorem run_conv_part {P : Program} (w : World) (g n cap : Nat) (l r : List UInt8) (t : TypeId) (f : Nat × Nat) (src dst e : TypeId) (hs : P.underlying src = some (.slice e)) (he : P.underlying e = some (.int .u8)) (hd : P.underlying dst = some .string)
    (h : w.heap[g]? = some (.cells (u8s (l ++ r)) t f)) (hn : l.length = n) : (convert src dst (.slice (some ⟨g, 0, none⟩) n cap)).run P w = .ok (.string ⟨l.toArray⟩) w := by
  subst hn
  have h1 := run_loadCells_list (P := P) w ⟨g, 0, none⟩ (l.map fun b => Value.int .u8 ((b.toNat : Nat) : Int)) (fun j v hv => by
    have hadd : (⟨g, 0, none⟩ : Addr).add j = ⟨g, j, none⟩ := by unfold Addr.add; split <;> simp_all
    rw [hadd, cell_of_row w g j _ t f h]
    have hj : j < l.length := by
      have := (List.getElem?_eq_some_iff.1 hv).1
      simpa using this
    have : (u8s (l ++ r))[j]? = (l.map fun b => Value.int .u8 ((b.toNat : Nat) : Int))[j]? := by
      unfold u8s
      rw [List.getElem?_toArray, List.map_append, List.getElem?_append_left (by simpa using hj)]
    rw [this]; exact hv)
  have h2 := run_bytesToString (P := P) w ⟨g, 0, none⟩ l.length cap (l.map fun b => (((b.toNat : Nat) : Int))) (by rw [List.map_map]; simpa [Function.comp_def] using h1)
  rw [run_convert_bytes_string w src dst e _ _ _ hs he hd, h2, fold_push]
  have he : ByteArray.empty.data = #[] := rfl
  rw [he, Array.empty_append]
/-! ## The sum -/
/-- what is carried behind k bytes -/
def cr (s : ByteArray) (n : Nat) : Nat → Nat
  | 0 => n
  | k + 1 => (cr s n k + (byteAt s (s.size - 1 - k)).toNat) / 256
/-- the last k bytes of the sum -/
def ta (s : ByteArray) (n : Nat) : Nat → List UInt8
  | 0 => []
  | k + 1 => UInt8.ofNat (cr s n k + (byteAt s (s.size - 1 - k)).toNat) :: ta s n k
theorem ta_length (s : ByteArray) (n k : Nat) : (ta s n k).length = k := by
  induction k with
  | zero => rfl
  | succ k ih => simp [ta, ih]
theorem cr_lt (s : ByteArray) (n k : Nat) (hn : n < 18446744073709551616) : cr s n k < 18446744073709551616 := by
  induction k with
  | zero => exact hn
  | succ k ih =>
    have := (byteAt s (s.size - 1 - k)).toNat_lt
    rw [cr]; omega
/-- the row behind k bytes -/
def adr (s : ByteArray) (n k : Nat) : List UInt8 := s.data.toList.take (s.size - k) ++ ta s n k
theorem adr_length (s : ByteArray) (n k : Nat) (hk : k ≤ s.size) : (adr s n k).length = s.size := by
  have : s.data.toList.length = s.size := by simp
  unfold adr
  rw [List.length_append, ta_length, List.length_take]; omega
theorem adr_zero (s : ByteArray) (n : Nat) : adr s n 0 = s.data.toList := by
  have : s.data.toList.length = s.size := by simp
  unfold adr
  rw [Nat.sub_zero, ← this, List.take_length, ta, List.append_nil]
theorem adr_at (s : ByteArray) (n k d : Nat) (r : List UInt8) (hd : d + 1 + k = s.size) : (adr s n k ++ r).getD d 0 = byteAt s d := by
  have : s.data.toList.length = s.size := by simp
  unfold adr byteAt
  rw [List.getD_eq_getElem?_getD, List.append_assoc, List.getElem?_append_left (by rw [List.length_take]; omega), List.getElem?_take, if_pos (by omega)]
theorem adr_set (s : ByteArray) (n k d : Nat) (r : List UInt8) (hd : d + 1 + k = s.size) : (adr s n k ++ r).set d (UInt8.ofNat (cr s n k + (byteAt s d).toNat)) = adr s n (k + 1) ++ r := by
  have hs : s.data.toList.length = s.size := by simp
  have e1 : s.size - k = d + 1 := by omega
  have e2 : s.size - (k + 1) = d := by omega
  have e3 : s.size - 1 - k = d := by omega
  unfold adr
  rw [ta, e1, e2, e3, List.take_succ_eq_append_getElem (by omega), List.append_assoc, List.append_assoc, List.append_assoc, List.set_append_right _ _ (by rw [List.length_take]; omega)]
  have e4 : d - (s.data.toList.take d).length = 0 := by rw [List.length_take]; omega
  rw [e4]; rfl
/-- where nothing is carried, the rest stays -/
theorem adr_stop (s : ByteArray) (n k : Nat) (h0 : cr s n k = 0) : ∀ d, d + k ≤ s.size → adr s n (d + k) = adr s n k ∧ cr s n (d + k) = 0 := by
  have hs : s.data.toList.length = s.size := by simp
  intro d
  induction d with
  | zero => intro _; rw [Nat.zero_add]; exact ⟨rfl, h0⟩
  | succ d ih =>
    intro hd
    obtain ⟨h1, h2⟩ := ih (by omega)
    obtain ⟨e, he⟩ : ∃ e, e + 1 + (d + k) = s.size := ⟨s.size - (d + k) - 1, by omega⟩
    have e3 : s.size - 1 - (d + k) = e := by omega
    have hb := (byteAt s e).toNat_lt
    have e5 : d + 1 + k = d + k + 1 := by omega
    rw [e5]
    constructor
    · rw [← h1]
      have h3 := adr_set s n (d + k) e [] he
      rw [List.append_nil, List.append_nil] at h3
      rw [← h3, h2, Nat.zero_add, UInt8.ofNat_toNat]
      have h4 := adr_at s n (d + k) e [] he
      rw [List.append_nil] at h4
      rw [← h4, List.getD_eq_getElem?_getD]
      have hl : e < (adr s n (d + k)).length := by rw [adr_length s n (d + k) (by omega)]; omega
      rw [List.getElem?_eq_getElem hl]
      exact List.set_getElem_self hl
    · rw [cr, h2, e3]; omega
/-- the sum -/
def addS (s : ByteArray) (n : Nat) : ByteArray := ⟨(ta s n s.size).toArray⟩
theorem adr_all (s : ByteArray) (n : Nat) : adr s n s.size = ta s n s.size := by
  unfold adr; rw [Nat.sub_self, List.take_zero, List.nil_append]
end Go.Proofs.Ytooakkelinaelaa
