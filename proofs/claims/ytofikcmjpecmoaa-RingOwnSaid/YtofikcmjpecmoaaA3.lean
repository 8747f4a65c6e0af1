/- The questions of RingAnswers, pair by pair. -/
import Derived.Test.YtofikcmjpecmoaaL2
import Derived.Test.YtofikcmjpecmoaaO1
namespace Go.Proofs.Ytofikcmjpecmoaa
open Go.RowKit Go.ChangeMaps Go.Maps Go.WideMaps
section
variable {w0 w w' : World} {r x : Nat} {l : List KV} {T T' T2 : Nat → Int}
/-- beside both a block c that holds ob, of neither -/
def BothO (w0 w : World) (r x : Nat) (l : List KV) (T T' : Nat → Int) (c : Nat) (ob : Obj) : Prop := ∃ Zr Zx : Nat → Prop, RingAt w Zr r l T ∧ RefAt w Zx x l T' ∧ (∀ k, Zr k → ¬ Zx k) ∧ (∀ k, w.heap.size ≤ k → Zr k) ∧
  (∀ k, Zr k ∨ Zx k → w0.heap.size ≤ k) ∧ Below w0.heap.size w0 w ∧ w.heap[c]? = some ob ∧ ¬ Zr c ∧ ¬ Zx c
theorem Both.guard (h : Both w0 w r x l T T') (ob : Obj) : BothO w0 (w.alloc ob) r x l T T' w.heap.size ob := by
  obtain ⟨Zr, Zx, h1, h2, h3, h4, h5, h6⟩ := h
  have hb : Below w.heap.size w (w.alloc ob) := (Below.refl _ _).alloc (Nat.le_refl _) _
  have hs : (w.alloc ob).heap.size = w.heap.size + 1 := by simp
  refine ⟨fun k => Zr k ∧ k ≠ w.heap.size, Zx, ?_, h2.turn (Below.turn hb) (fun k hk _ => by omega), fun k hk => h3 k hk.1, fun k hk => ⟨h4 k (by omega), by omega⟩, ?_, h6.trans (hb.mono h6.size), heap_alloc_new _ _, fun hz => hz.2 rfl, fun hz => h3 _ (h4 _ (Nat.le_refl _)) hz⟩
  · exact (h1.shrink (fun k hk hz => ⟨hz, by omega⟩)).turn (Below.turn hb) (fun k hk _ => by omega)
  · intro k hk
    exact h5 k (hk.imp (fun h => h.1) id)
variable {c : Nat} {ob : Obj}
theorem BothO.both (h : BothO w0 w r x l T T' c ob) : Both w0 w r x l T T' := by
  obtain ⟨Zr, Zx, h1, h2, h3, h4, h5, h6, _⟩ := h
  exact ⟨Zr, Zx, h1, h2, h3, h4, h5, h6⟩
theorem BothO.held (h : BothO w0 w r x l T T' c ob) : w.heap[c]? = some ob := by
  obtain ⟨Zr, Zx, h1, h2, h3, h4, h5, h6, h7, _⟩ := h
  exact h7
theorem BothO.grow (h : BothO w0 w r x l T T' c ob) (hb : Below w.heap.size w w') : BothO w0 w' r x l T T' c ob := by
  obtain ⟨Zr, Zx, h1, h2, h3, h4, h5, h6, h7, h8, h9⟩ := h
  exact ⟨Zr, Zx, h1.turn (Below.turn hb) (fun k hk _ => by omega), h2.turn (Below.turn hb) (fun k hk _ => by omega), h3, fun k hk => h4 k (Nat.le_trans hb.size hk), h5, h6.trans (hb.mono h6.size), (hb.block c (Array.getElem?_eq_some_iff.1 h7).1).trans h7, h8, h9⟩
theorem both_ring {P : Program} {f : FuncId} {args : Array Value} {A : Ending → Prop} (h : BothO w0 w r x l T T' c ob) (hc : ∀ Zr, RingAt w Zr r l T → Calls P f args w fun y w' => A y ∧ RingAt w' Zr r l T2 ∧ Turn Zr w w') :
    Calls P f args w fun y w' => A y ∧ Hid (BothO w0 w' r x l T2 T' c ob) := by
  obtain ⟨Zr, Zx, h1, h2, h3, h4, h5, h6, h7, h8, h9⟩ := h
  refine (hc Zr h1).mono ?_
  rintro y w' ⟨ha, k1, k2⟩
  exact ⟨ha, Zr, Zx, k1, h2.turn k2 (fun k _ hx hr => h3 k hr hx), h3, fun k hk => h4 k (Nat.le_trans k2.size hk), h5, h6.trans (k2.toBelow h6.size (fun k hk hr => by have := h5 k (Or.inl hr); omega)), (k2.block c (Array.getElem?_eq_some_iff.1 h7).1 h8).trans h7, h8, h9⟩
theorem both_ref {P : Program} {f : FuncId} {args : Array Value} {A : Ending → Prop} (h : BothO w0 w r x l T T' c ob) (hc : ∀ Zx vL vT, RefIn w Zx x vL vT l T' → Calls P f args w fun y w' => A y ∧ RefAt w' Zx x l T2 ∧ Turn Zx w w') :
    Calls P f args w fun y w' => A y ∧ Hid (BothO w0 w' r x l T T2 c ob) := by
  obtain ⟨Zr, Zx, h1, ⟨vL, vT, h2⟩, h3, h4, h5, h6, h7, h8, h9⟩ := h
  refine (hc Zx vL vT h2).mono ?_
  rintro y w' ⟨ha, k1, k2⟩
  exact ⟨ha, Zr, Zx, h1.turn k2 (fun k _ hr hx => h3 k hr hx), k1, h3, fun k hk => h4 k (Nat.le_trans k2.size hk), h5, h6.trans (k2.toBelow h6.size (fun k hk hr => by have := h5 k (Or.inr hr); omega)), (k2.block c (Array.getElem?_eq_some_iff.1 h7).1 h9).trans h7, h8, h9⟩
variable (s : ByteArray) (hs : s.size ≤ maxLen)
theorem ask_find {i : Nat} (h : BothO w0 w r x l T T' c ob) (hs : s.size ≤ maxLen) (hi : i < l.length) (hf : fnd l s = some i) :
    Calls Try.prog 14 #[.pointer (some ⟨r, 0, none⟩), .string s] w fun y w' => y = .returned (.tuple #[.string l[i].2, .int .i64 0]) ∧ Hid (BothO w0 w' r x l (upd T i) T' c ob) :=
  both_ring h (fun _ hr => at_find_some hr s hs i hi hf)
theorem ask_rfind {i : Nat} (h : BothO w0 w r x l T T' c ob) (hi : i < l.length) (hf : fnd l s = some i) :
    Calls Try.prog 15 #[.pointer (some ⟨x, 0, none⟩), .string s] w fun y w' => y = .returned (.tuple #[.string l[i].2, .int .i64 0]) ∧ Hid (BothO w0 w' r x l T (upd T' i) c ob) :=
  both_ref h (fun _ _ _ hr => rfind_some hr s i hi hf)
theorem ask_find0 (h : BothO w0 w r x l T T' c ob) (hs : s.size ≤ maxLen) (hf : fnd l s = none) :
    Calls Try.prog 14 #[.pointer (some ⟨r, 0, none⟩), .string s] w fun y w' => y = .returned (.tuple #[.string ⟨#[]⟩, .int .i64 12]) ∧ Hid (BothO w0 w' r x l T T' c ob) := by
  obtain ⟨Zr, hr, _⟩ := h.both.ringAt
  refine (at_find_none hr s hs hf).mono ?_
  rintro y w' ⟨rfl, rfl⟩
  exact ⟨rfl, h⟩
theorem ask_rfind0 (h : BothO w0 w r x l T T' c ob) (hf : fnd l s = none) :
    Calls Try.prog 15 #[.pointer (some ⟨x, 0, none⟩), .string s] w fun y w' => y = .returned (.tuple #[.string ⟨#[]⟩, .int .i64 12]) ∧ Hid (BothO w0 w' r x l T T' c ob) := by
  obtain ⟨Zx, vL, vT, hx⟩ := h.both.refAt
  refine (rfind_none hx s hf).mono ?_
  rintro y w' ⟨rfl, rfl⟩
  exact ⟨rfl, h⟩
theorem ask_has (h : BothO w0 w r x l T T' c ob) (hs : s.size ≤ maxLen) :
    Calls Try.prog 16 #[.pointer (some ⟨r, 0, none⟩), .string s] w fun y w' => y = .returned (.bool (fnd l s).isSome) ∧ w' = w := by
  obtain ⟨Zr, hr, _⟩ := h.both.ringAt
  cases hf : fnd l s with
  | some i => exact at_has_some hr s hs i hf
  | none => exact at_has_none hr s hs hf
theorem ask_at (h : BothO w0 w r x l T T' c ob) :
    Calls Try.prog 17 #[.pointer (some ⟨x, 0, none⟩), .string s] w fun y w' => y = .returned (.int .i64 (plc (fnd l s))) ∧ w' = w := by
  obtain ⟨Zx, vL, vT, hx⟩ := h.both.refAt
  exact rat_t hx s
def told1 (l : List KV) (s : ByteArray) (T : Nat → Int) : Int := match fnd l s with | some i => T i | none => 0
theorem ask_uses (h : BothO w0 w r x l T T' c ob) (hs : s.size ≤ maxLen) (ht : ∀ i, IntKind.i64.wrap (T i) = T i) :
    Calls Try.prog 20 #[.pointer (some ⟨r, 0, none⟩), .string s] w fun y w' => y = .returned (.int .i64 (told1 l s T)) ∧ w' = w := by
  obtain ⟨Zr, hr, _⟩ := h.both.ringAt
  unfold told1
  cases hf : fnd l s with
  | some i => exact at_uses_some hr s hs i hf (ht i)
  | none => exact at_uses_none hr s hs hf
theorem ask_ruses (h : BothO w0 w r x l T T' c ob) :
    Calls Try.prog 21 #[.pointer (some ⟨x, 0, none⟩), .string s] w fun y w' => y = .returned (.int .i64 (told1 l s T')) ∧ w' = w := by
  obtain ⟨Zx, vL, vT, hx⟩ := h.both.refAt
  unfold told1
  cases hf : fnd l s with
  | some i => exact ruses_some hx s i (fnd_some hf).1 hf
  | none => exact ruses_none hx s hf
theorem ask_only {e : KV} (h : BothO w0 w r x [e] T T' c ob) :
    Calls Try.prog 18 #[.pointer (some ⟨r, 0, none⟩)] w fun y w' => y = .returned (.tuple #[.string e.1, .string e.2, .int .i64 0]) ∧ Hid (BothO w0 w' r x [e] (upd T 0) T' c ob) :=
  both_ring h (fun _ hr => at_only_one hr)
theorem ask_ronly {e : KV} (h : BothO w0 w r x [e] T T' c ob) :
    Calls Try.prog 19 #[.pointer (some ⟨x, 0, none⟩)] w fun y w' => y = .returned (.tuple #[.string e.1, .string e.2, .int .i64 0]) ∧ Hid (BothO w0 w' r x [e] T (upd T' 0) c ob) :=
  both_ref h (fun _ _ _ hr => ronly_one hr)
theorem ask_only0 (h : BothO w0 w r x l T T' c ob) (hl : l.length ≠ 1) :
    Calls Try.prog 18 #[.pointer (some ⟨r, 0, none⟩)] w fun y w' => y = .returned (.tuple #[.string ⟨#[]⟩, .string ⟨#[]⟩, .int .i64 12]) ∧ Hid (BothO w0 w' r x l T T' c ob) := by
  obtain ⟨Zr, hr, _⟩ := h.both.ringAt
  refine (at_only_other hr hl).mono ?_
  rintro y w' ⟨rfl, rfl⟩
  exact ⟨rfl, h⟩
theorem ask_ronly0 (h : BothO w0 w r x l T T' c ob) (hl : l.length ≠ 1) :
    Calls Try.prog 19 #[.pointer (some ⟨x, 0, none⟩)] w fun y w' => y = .returned (.tuple #[.string ⟨#[]⟩, .string ⟨#[]⟩, .int .i64 12]) ∧ Hid (BothO w0 w' r x l T T' c ob) := by
  obtain ⟨Zx, vL, vT, hx⟩ := h.both.refAt
  refine (ronly_other hx hl).mono ?_
  rintro y w' ⟨rfl, rfl⟩
  exact ⟨rfl, h⟩
end
theorem plc_ge (o : Option Nat) : decide (0 ≤ plc o) = o.isSome := by
  cases o with
  | none => rfl
  | some i => simp [plc]
theorem bump_of {t : Int} (h : 0 ≤ t) (h2 : t ≤ 1000) : bump t = t + 1 := by
  unfold bump; rw [IntKind.wrap_i64]; omega
theorem wrap_of {t : Int} (h : 0 ≤ t) (h2 : t ≤ 1000) : IntKind.i64.wrap t = t := by
  rw [IntKind.wrap_i64]; omega
end Go.Proofs.Ytofikcmjpecmoaa
