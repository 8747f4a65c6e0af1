/- Ring: New, over this dump. -/
import Derived.Test.YtofikcmjpecmoaaW7
namespace Go.Proofs.Ytofikcmjpecmoaa
open Go.RowKit Go.ChangeMaps Go.Maps Go.WideMaps
abbrev KV := ByteArray × ByteArray
def bad (e : KV) : Prop := e.1.size = 0 ∨ 128 < e.1.size ∨ e.2.size = 0 ∨ 1024 < e.2.size
instance (e : KV) : Decidable (bad e) := inferInstanceAs (Decidable (_ ∨ _ ∨ _ ∨ _))
def code : List (List UInt8) → List KV → Nat
  | _, [] => 0
  | seen, e :: r => if bad e then 2 else if e.1.data.toList ∈ seen then 13 else code (seen ++ [e.1.data.toList]) r
def newCode (l : List KV) : Nat := if 64 < l.length then 10 else code [] l
/-- a list of entries lies at a slice -/
def Lies (w : World) (v : Value) (l : List KV) : Prop := ∃ a cap, v = .slice a l.length cap ∧ ∀ i (h : i < l.length), ∃ b off, a = some ⟨b, off, none⟩ ∧ b < w.heap.size ∧
  w.cell? ⟨b, off + i * 2, none⟩ = some (.string l[i].1) ∧ w.cell? ⟨b, off + i * 2 + 1, none⟩ = some (.string l[i].2)
theorem info68 : (Try.prog.info? 68).map (fun i => (i.zero, i.size, i.bytes)) = some (some (.pointer none), 1, 8) := by kernel_rfl
theorem look_hit (w : World) (m : Nat) (L : List E) (s : ByteArray) (hm : w.heap[m]? = some (.map (ents L) L.length)) (hs : ∀ e ∈ L, e.nm.size ≤ maxLen) (hl : s.size ≤ maxLen) (nd : (L.map E.nm).Nodup) (e : E) (he : e ∈ L) (hes : e.nm = s) :
    (Instr.lookup 52 (.map (some m)) (.string s) false).run Try.prog w = .ok (.pointer (some ⟨e.p, 0, none⟩)) w := by
  rcases look_t w m L s hm hs hl with ⟨e1, he1, hs1, hr1⟩ | ⟨hno, _⟩
  · obtain rfl : e1 = e := mem_inj E.nm nd he1 he (hs1.trans hes.symm)
    exact hr1
  · exact absurd hes (hno e he)
theorem look_miss (w : World) (m : Nat) (L : List E) (s : ByteArray) (hm : w.heap[m]? = some (.map (ents L) L.length)) (hs : ∀ e ∈ L, e.nm.size ≤ maxLen) (hl : s.size ≤ maxLen) (hno : ∀ e ∈ L, e.nm ≠ s) :
    (Instr.lookup 52 (.map (some m)) (.string s) false).run Try.prog w = .ok (.pointer none) w := by
  rcases look_t w m L s hm hs hl with ⟨e1, he1, hs1, hr1⟩ | ⟨_, hr1⟩
  · exact absurd hs1 (hno e1 he1)
  · exact hr1
theorem Below.drewN {B : Nat} {a w : World} (h : Below B a w) (n : Nat) : Below B a (w.drewN n) := ⟨h.os, h.tape, h.output, h.size, h.block⟩
theorem toList_nil {s : ByteArray} (h : s.size = 0) : s.toList = [] := by
  rw [ByteArray.toList_eq]
  exact List.length_eq_zero_iff.1 (by simpa using h)
theorem toList_nil_inv {s : ByteArray} (h : s.toList = []) : s.size = 0 := by
  rw [ByteArray.toList_eq] at h
  have := congrArg List.length h
  simpa using this
def abs (L : List E) : List (ByteArray × ByteArray × Int) := L.map fun e => (e.nm, e.key, e.t)
def fresh (l : List KV) : List (ByteArray × ByteArray × Int) := l.map fun e => (e.1, e.2, 0)
def names (l : List KV) : List (List UInt8) := l.map fun e => e.1.data.toList
theorem ring_made (w : World) : RingIn ((w.alloc (.map #[] 0)).alloc (.cells (ringCells w.heap.size (.slice none 0 0) 0 (.slice none 0 0)) 67)) (fun k => w.heap.size ≤ k) (w.heap.size + 1) w.heap.size (.slice none 0 0) 0 (.slice none 0 0) [] := by
  refine ⟨?_, ?_, World.ownsRow_nil _ _ _ _, (fun e he => by cases he), Nat.le_succ _, Nat.le_refl _, (fun g hg => by cases hg), (fun g hg => by cases hg), (fun e he => by cases he), List.nodup_nil, List.nodup_nil, (fun e he => by cases he), by decide, Or.inl ⟨rfl, rfl⟩⟩
  · have : (w.alloc (.map #[] 0)).heap.size = w.heap.size + 1 := by simp
    rw [← this]
    exact heap_alloc_new _ _
  · rw [Below.heap_alloc _ _ _ (by simp)]
    exact heap_alloc_new _ _
theorem ba_ext {s t : ByteArray} (h : s.data.toList = t.data.toList) : s = t := by
  cases s; cases t; congr 1; exact Array.toList_inj.1 h
theorem grown_keeps' {w w1 : World} {row : Option Nat} {r : Nat} {o o' : Obj} (hg : (w.alloc o').grownBy w1 row) (hr : w.heap[r]? = some o) (hne : some r ≠ row) : w1.heap[r]? = some o := by
  have hlt : r < w.heap.size := (Array.getElem?_eq_some_iff.1 hr).1
  refine (hg.block r (by show r < (w.heap.push o').size; simp; omega) hne).trans ?_
  show (w.heap.push o')[r]? = _
  rw [Array.getElem?_push, if_neg (by omega)]; exact hr
theorem heap_setBlock_ne {w : World} {b j : Nat} (h : j ≠ b) (o : Obj) : (setBlock w b o).heap[j]? = w.heap[j]? := by
  simp [setBlock, Ne.symm h]
theorem heap_setBlock_eq {w : World} {b : Nat} (h : b < w.heap.size) (o : Obj) : (setBlock w b o).heap[b]? = some o := by
  simp [setBlock, h]
theorem ring_snoc {w w' : World} {Z : Nat → Prop} {r m : Nat} {va va' : Value} {L : List E} (h : RingIn w Z r m va 0 (.slice none 0 0) L) (e0 : E) (hZ : Z e0.p) (hno : ∀ x ∈ L, x.nm ≠ e0.nm) (hnp : ∀ x ∈ L, x.p ≠ e0.p)
    (hsz : e0.nm.size ≤ 128) (hlen : L.length < 64) (hr : w'.heap[r]? = some (.cells (ringCells m va' 0 (.slice none 0 0)) 67 (0, 0))) (hm : w'.heap[m]? = some (.map (ents (L ++ [e0])) (L ++ [e0]).length))
    (ha : w'.ownsRow 0 68 1 va' (L.length + 1) (ptrs L ++ [.pointer (some ⟨e0.p, 0, none⟩)])) (za : ∀ g, va'.ownBlock = some g → Z g) (hp0 : w'.heap[e0.p]? = some (.cells e0.cells 73 (0, 0)))
    (hold : ∀ e ∈ L, w'.heap[e.p]? = w.heap[e.p]?) : RingIn w' Z r m va' 0 (.slice none 0 0) (L ++ [e0]) := by
  refine ⟨hr, hm, ?_, ?_, h.zr, h.zm, za, (fun g hg => by cases hg), ?_, ?_, ?_, ?_, ?_, Or.inl ⟨rfl, rfl⟩⟩
  · simpa [ptrs] using ha
  · intro e he
    rcases List.mem_append.1 he with he | he
    · exact (hold e he).trans (h.hp e he)
    · obtain rfl := List.mem_singleton.1 he; exact hp0
  · intro e he
    rcases List.mem_append.1 he with he | he
    · exact h.zp e he
    · obtain rfl := List.mem_singleton.1 he; exact hZ
  · rw [List.map_append, List.nodup_append]
    refine ⟨h.nd, by simp, ?_⟩
    intro a ha b hb
    obtain ⟨x, hx, rfl⟩ := List.mem_map.1 ha
    obtain ⟨y, hy, rfl⟩ := List.mem_map.1 hb
    obtain rfl := List.mem_singleton.1 hy
    exact hno x hx
  · rw [List.map_append, List.nodup_append]
    refine ⟨h.ndp, by simp, ?_⟩
    intro a ha b hb
    obtain ⟨x, hx, rfl⟩ := List.mem_map.1 ha
    obtain ⟨y, hy, rfl⟩ := List.mem_map.1 hb
    obtain rfl := List.mem_singleton.1 hy
    exact hnp x hx
  · intro e he
    rcases List.mem_append.1 he with he | he
    · exact h.sz e he
    · obtain rfl := List.mem_singleton.1 he; exact hsz
  · simp; omega
set_option maxRecDepth 100000 in
set_option maxHeartbeats 2000000 in
theorem new_t (w : World) (v : Value) (l : List KV) (hl : Lies w v l) :
    Calls Try.prog 7 #[v] w fun x w' => Below w.heap.size w w' ∧ ((newCode l = 0 ∧ ∃ r m va L, x = .returned (.tuple #[.pointer (some ⟨r, 0, none⟩), .int .i64 0]) ∧
        RingIn w' (fun k => w.heap.size ≤ k) r m va 0 (.slice none 0 0) L ∧ abs L = fresh l) ∨
      (newCode l ≠ 0 ∧ x = .returned (.tuple #[.pointer none, .int .i64 (newCode l)]))) := by
  obtain ⟨i0, hi, hz0, hz1, hz2⟩ := info_parts info68
  obtain ⟨a, cap, rfl, hcell⟩ := hl
  by_cases h64 : 64 < l.length
  · have t1 : (64 : Int) < (l.length : Int) := by omega
    have HC : Hid (newCode l = 10) := by show newCode l = 10; unfold newCode; rw [if_pos h64]
    clear hcell h64
    go_enter Try.func7, Try.ntmps7
    go_wp2
    go_ret2
    rw [HC.out]
    exact ⟨Below.refl _ _, Or.inr ⟨by decide, rfl⟩⟩
  · have HC : Hid (newCode l = code [] l) := by show newCode l = code [] l; unfold newCode; rw [if_neg h64]
    have H64 := Lib.hid h64
    have t1 : (l.length : Int) ≤ (64 : Int) := by omega
    have HCELL := Lib.hid hcell
    obtain ⟨n, hn⟩ : ∃ n, n = l.length := ⟨_, rfl⟩
    have HN := Lib.hid hn
    rw [← hn] at t1 ⊢
    have HI := Lib.hid hi
    have HZ0 := Lib.hid hz0
    have HZ1 := Lib.hid hz1
    have HZ2 := Lib.hid hz2
    clear hi hz0 hz1 hz2 hn hcell h64
    have hmm := @run_makeMap Try.prog
    go_enter Try.func7, Try.ntmps7
    go_wp2
    go_loopw [16] (fun v16 wr => ∃ (k : Nat) (va : Value) (L : List E), v16 = .int .i64 (k : Nat) ∧ k ≤ n ∧ RingIn wr (fun j => w.heap.size ≤ j) (w.heap.size + 1) w.heap.size va 0 (.slice none 0 0) L ∧
      abs L = fresh (l.take k) ∧ code (names (l.take k)) (l.drop k) = code [] l ∧ Below w.heap.size w wr) (fun v16 _ => n - (intOf v16).toNat)
    case atStart => exact ⟨0, _, [], rfl, Nat.zero_le _, ring_made w, rfl, rfl, ((Below.refl _ w).alloc (Nat.le_refl _) _).alloc (by simp) _⟩
    case round =>
      obtain ⟨k, va, L, rfl, hk, hring, habs, hcode, hbel⟩ := hrel
      have HRG := Lib.hid hring
      have HA := Lib.hid habs
      have HCO := Lib.hid hcode
      have HB := Lib.hid hbel
      by_cases hlt : k < n
      · have hkl : k < l.length := by rw [← HN.out]; exact hlt
        obtain ⟨b, off, rfl, hb, d0, d1⟩ := HCELL.out k hkl
        obtain ⟨e, he⟩ : ∃ e, e = l[k] := ⟨_, rfl⟩
        have hdrop : l.drop k = e :: l.drop (k + 1) := by rw [he]; exact List.drop_eq_getElem_cons hkl
        have htake : l.take (k + 1) = l.take k ++ [e] := by rw [he]; exact List.take_succ_eq_append_getElem hkl
        rw [← he] at d0 d1
        have k0 : wr.cell? ⟨b, off + k * 2, none⟩ = some (.string e.1) := (hbel.cell hb).trans d0
        have k1 : wr.cell? ⟨b, off + k * 2 + 1, none⟩ = some (.string e.2) := (hbel.cell hb).trans d1
        have HD := Lib.hid hdrop
        have HT := Lib.hid htake
        have HE := Lib.hid hb
        clear hring habs hcode hbel hdrop htake he d0 d1 hb hkl
        obtain ⟨nm, key⟩ := e
        by_cases hbad : bad (nm, key)
        · have HX : Hid (newCode l = 2) := by
            show newCode l = 2
            rw [HC.out, ← HCO.out, HD.out, code, if_pos hbad]
          by_cases g1 : nm.toList = []
          · go_wp2
            go_ret2
            rw [HX.out]
            exact ⟨HB.out.alloc HB.out.size _, Or.inr ⟨by decide, rfl⟩⟩
          by_cases g2 : (128 : Int) < (nm.size : Int)
          · go_wp2
            go_ret2
            rw [HX.out]
            exact ⟨HB.out.alloc HB.out.size _, Or.inr ⟨by decide, rfl⟩⟩
          have g2' : (nm.size : Int) ≤ 128 := by omega
          by_cases g3 : key.toList = []
          · go_wp2
            go_ret2
            rw [HX.out]
            exact ⟨HB.out.alloc HB.out.size _, Or.inr ⟨by decide, rfl⟩⟩
          have g4 : (1024 : Int) < (key.size : Int) := by
            rcases hbad with h | h | h | h
            · exact absurd (toList_nil h) g1
            · exact absurd (by show (128 : Int) < (nm.size : Int); have : 128 < nm.size := h; omega) g2
            · exact absurd (toList_nil h) g3
            · have : 1024 < key.size := h
              omega
          go_wp2
          go_ret2
          rw [HX.out]
          exact ⟨HB.out.alloc HB.out.size _, Or.inr ⟨by decide, rfl⟩⟩
        · have g1 : ¬ nm.toList = [] := fun h => hbad (Or.inl (toList_nil_inv h))
          have g2 : (nm.size : Int) ≤ 128 := by
            have : ¬ 128 < nm.size := fun h => hbad (Or.inr (Or.inl h))
            omega
          have g3 : ¬ key.toList = [] := fun h => hbad (Or.inr (Or.inr (Or.inl (toList_nil_inv h))))
          have g4 : (key.size : Int) ≤ 1024 := by
            have : ¬ 1024 < key.size := fun h => hbad (Or.inr (Or.inr (Or.inr h)))
            omega
          have HBAD := Lib.hid hbad
          clear hbad
          have b1 : nm.toList.isEmpty = false := by simpa using g1
          have b3 : key.toList.isEmpty = false := by simpa using g3
          have b2 : decide ((128 : Int) < (nm.size : Int)) = false := decide_eq_false (by omega)
          have b4 : decide ((1024 : Int) < (key.size : Int)) = false := decide_eq_false (by omega)
          go_wp2
          have hring := HRG.out
          have hmaplt : w.heap.size < wr.heap.size := (Array.getElem?_eq_some_iff.1 hring.hm).1
          have hrlt : w.heap.size + 1 < wr.heap.size := (Array.getElem?_eq_some_iff.1 hring.hr).1
          have hs : ∀ e ∈ L, e.nm.size ≤ maxLen := fun e he => by have := hring.sz e he; unfold maxLen; omega
          have hsn : nm.size ≤ maxLen := by unfold maxLen; omega
          have r0 : wr.cell? ⟨w.heap.size + 1, 0, none⟩ = some (.map (some w.heap.size)) := cell_of hring.hr rfl
          have r1 : (wr.alloc (.cells #[.string nm, .string key] 37)).cell? ⟨w.heap.size + 1, 0, none⟩ = some (.map (some w.heap.size)) :=
            (World.cell?_of_block (Below.heap_alloc wr _ _ hrlt)).trans r0
          have r2 : (wr.alloc (.cells #[.string nm, .string key] 37)).cell? ⟨wr.heap.size, 0, none⟩ = some (.string nm) := cell_of (heap_alloc_new _ _) rfl
          have hmW : (wr.alloc (.cells #[.string nm, .string key] 37)).heap[w.heap.size]? = some (.map (ents L) L.length) := (Below.heap_alloc wr _ _ hmaplt).trans hring.hm
          by_cases hin : ∃ x ∈ L, x.nm = nm
          · obtain ⟨x, hx, hxn⟩ := hin
            have hrun : ∀ d, (Instr.lookup 52 (.map (some w.heap.size)) (.string nm) false).run Try.prog ((wr.alloc (.cells #[.string nm, .string key] 37)).drewN d) = .ok (.pointer (some ⟨x.p, 0, none⟩)) ((wr.alloc (.cells #[.string nm, .string key] 37)).drewN d) :=
              fun d => look_hit ((wr.alloc (.cells #[.string nm, .string key] 37)).drewN d) _ L nm hmW hs hsn hring.nd x hx hxn
            have HX : Hid (newCode l = 13) := by
              show newCode l = 13
              have hin : nm.data.toList ∈ names (l.take k) := by
                have h1 : (abs L).map (fun t => t.1.data.toList) = names (l.take k) := by rw [HA.out]; simp [fresh, names, Function.comp_def]
                rw [← h1]
                exact List.mem_map.2 ⟨(x.nm, x.key, x.t), List.mem_map.2 ⟨x, hx, rfl⟩, by rw [hxn]⟩
              rw [HC.out, ← HCO.out, HD.out, code, if_neg HBAD.out, if_pos hin]
            clear hring hmaplt hrlt hs hsn hx hxn hmW
            go_quiet (fail)
            go_wp2
            go_ret2
            rw [HX.out]
            exact ⟨Below.drewN (HB.out.alloc HB.out.size _) _, Or.inr ⟨by decide, rfl⟩⟩
          · have hno : ∀ x ∈ L, x.nm ≠ nm := fun x hx hxn => hin ⟨x, hx, hxn⟩
            have hrun : ∀ d, (Instr.lookup 52 (.map (some w.heap.size)) (.string nm) false).run Try.prog ((wr.alloc (.cells #[.string nm, .string key] 37)).drewN d) = .ok (.pointer none) ((wr.alloc (.cells #[.string nm, .string key] 37)).drewN d) :=
              fun d => look_miss ((wr.alloc (.cells #[.string nm, .string key] 37)).drewN d) _ L nm hmW hs hsn hno
            have HNO := Lib.hid hno
            clear hring hmaplt hrlt hs hsn hno hin hmW
            go_quiet (fail)
            go_wp2
            have hring := HRG.out
            obtain ⟨w3, hw3⟩ : ∃ w3, w3 = ((wr.alloc (.cells #[.string nm, .string key] 37)).drewN nq).alloc (.cells #[.string nm, .string key, .int .i64 0] 73) := ⟨_, rfl⟩
            have hs3 : w3.heap.size = wr.heap.size + 2 := by rw [hw3]; simp [World.drewN]
            have o3 : ∀ j, j < wr.heap.size → w3.heap[j]? = wr.heap[j]? := fun j hj => by
              rw [hw3]
              exact (Below.heap_alloc _ _ j (by simp [World.drewN]; omega)).trans (Below.heap_alloc wr _ j hj)
            have e3 : w3.heap[wr.heap.size]? = some (.cells #[.string nm, .string key] 37 (0, 0)) := by
              rw [hw3]
              exact (Below.heap_alloc _ _ _ (by simp [World.drewN])).trans (heap_alloc_new _ _)
            have p3 : w3.heap[wr.heap.size + 1]? = some (.cells #[.string nm, .string key, .int .i64 0] 73 (0, 0)) := by
              have h := heap_alloc_new ((wr.alloc (.cells #[.string nm, .string key] 37)).drewN nq) (.cells #[.string nm, .string key, .int .i64 0] 73)
              rw [← hw3] at h
              simpa [World.drewN] using h
            have hb3 : Below w.heap.size w w3 := by
              rw [hw3]
              exact (Below.drewN (HB.out.alloc HB.out.size _) _).alloc (by have := HB.out.size; simp [World.drewN]; omega) _
            have ring3 : RingIn w3 (fun j => w.heap.size ≤ j) (w.heap.size + 1) w.heap.size va 0 (.slice none 0 0) L := hring.same (fun j hj _ => o3 j hj)
            rw [← hw3]
            have HNP := Lib.hid (show ∀ x ∈ L, x.p ≠ wr.heap.size + 1 from fun x hx e1 => by
              have := (Array.getElem?_eq_some_iff.1 (hring.hp x hx)).1
              omega)
            have hs : ∀ e ∈ L, e.nm.size ≤ maxLen := fun e he => by have := hring.sz e he; unfold maxLen; omega
            have hup := upd_t w3.drew w.heap.size L ⟨nm, key, 0, wr.heap.size + 1⟩ ring3.hm hs (by show nm.size ≤ maxLen; unfold maxLen; omega) HNO.out
            have s0 : w3.cell? ⟨w.heap.size + 1, 0, none⟩ = some (.map (some w.heap.size)) := cell_of ring3.hr rfl
            have s1 : w3.cell? ⟨wr.heap.size, 0, none⟩ = some (.string nm) := cell_of e3 rfl
            obtain ⟨w4, hw4⟩ : ∃ w4, w4 = setBlock w3.drew w.heap.size (.map (ents (L ++ [(⟨nm, key, 0, wr.heap.size + 1⟩ : E)])) (L ++ [(⟨nm, key, 0, wr.heap.size + 1⟩ : E)]).length) := ⟨_, rfl⟩
            rw [← hw4] at hup
            have HW4 := Lib.hid hw4
            have H3 := Lib.hid (And.intro hs3 (And.intro o3 (And.intro p3 (And.intro hb3 ring3))))
            clear hring hs3 o3 e3 p3 hb3 ring3 hs hw3 hw4
            go_region
            have s4 : w4.heap.size = wr.heap.size + 2 := by rw [HW4.out]; simp [setBlock, H3.out.1]
            have o4 : ∀ j, j ≠ w.heap.size → w4.heap[j]? = w3.heap[j]? := fun j hj => by rw [HW4.out]; exact heap_setBlock_ne hj _
            have m4 : w4.heap[w.heap.size]? = some (.map (ents (L ++ [(⟨nm, key, 0, wr.heap.size + 1⟩ : E)])) (L ++ [(⟨nm, key, 0, wr.heap.size + 1⟩ : E)]).length) := by
              rw [HW4.out]
              exact heap_setBlock_eq (by have := H3.out.1; have := HB.out.size; simp; omega) _
            have ring3 := H3.out.2.2.2.2
            have r4 : w4.heap[w.heap.size + 1]? = some (.cells (ringCells w.heap.size va 0 (.slice none 0 0)) 67 (0, 0)) := (o4 _ (by omega)).trans ring3.hr
            have hva4 : w4.ownsRow 0 68 1 va L.length (ptrs L) := ownsRow_same ring3.ha (fun g hg => o4 g (fun e1 => by
              obtain ⟨c, hc⟩ := ownsRow_elem ring3.ha g hg
              rw [e1, ring3.hm] at hc; simp at hc))
            have HNR := Lib.hid (show ∀ (o : Obj) (j : Nat), (∀ c, o ≠ .cells c 68 (0, 0)) → w4.heap[j]? = some o → some j ≠ va.ownBlock from fun o j ho hj e1 => by
              obtain ⟨c, hc⟩ := ownsRow_elem hva4 j e1.symm
              rw [hj] at hc
              exact ho c (Option.some.inj hc))
            have n1 : w4.cell? ⟨w.heap.size + 1, 1, none⟩ = some va := cell_of r4 rfl
            have HLK := Lib.hid (show L.length = k by
              have := congrArg List.length HA.out
              simp [abs, fresh] at this
              have h2 := HN.out
              omega)
            have HVA := Lib.hid hva4
            have H4 := Lib.hid (And.intro s4 (And.intro o4 (And.intro m4 r4)))
            have HL := Lib.hid hlt
            have HT1 := Lib.hid t1
            clear s4 o4 m4 ring3 r4 hva4
            go_wp2_with (first | (at_builtin; refine wpList_append_lies _ rfl (.tmp 62) (.tmp 64) 53 rfl 0 68 i0 (.pointer none) 1 8 Try.underlying53 HI.out HZ0.out HZ1.out HZ2.out rfl (by decide) va L.length _ rfl (HVA.out.alloc _) ⟨w4.heap.size, 0, none⟩ 1 1 [.pointer (some ⟨wr.heap.size + 1, 0, none⟩)] rfl rfl (by exact cell_one_new _ _ _) (by simp [Value.oneCell']) (by decide) (by have := HL.out; have := HLK.out; have := HT1.out; unfold maxLen; omega) (by have := HL.out; have := HLK.out; have := HT1.out; omega) (Nat.zero_le _) _ rfl ?_; intro g1 cap1 w5 hown5 hgrow hat hlt5; have hr5 := grown_keeps' hgrow H4.out.2.2.2 (HNR.out _ _ (fun c e1 => by cases e1) H4.out.2.2.2); have c5 := cell_of (j := 1) hr5 rfl; have f5 := frozen_of (j := 1) hr5; have HR5 := Lib.hid hr5; have HO5 := Lib.hid hown5; have HG := Lib.hid hgrow; have HAT := Lib.hid hat; clear hown5 hgrow hr5 hat hlt5) | go_in)
            obtain ⟨s4, o4, m4, r4⟩ := H4.out
            obtain ⟨s3, o3, p3, b3, ring3⟩ := H3.out
            have hring := HRG.out
            have hwr := HB.out.size
            have hm3 : w.heap.size < wr.heap.size := (Array.getElem?_eq_some_iff.1 hring.hm).1
            have hva := HVA.out
            have keep : ∀ (o : Obj) (j : Nat), (∀ c, o ≠ .cells c 68 (0, 0)) → j ≠ w.heap.size + 1 → w4.heap[j]? = some o → (w5.setCell ⟨w.heap.size + 1, 1, none⟩ (.slice (some ⟨g1, 0, none⟩) (L.length + 1) cap1)).heap[j]? = some o := fun o j ho hj h4 =>
              (heap_setCell_other hj _).trans (grown_keeps' HG.out h4 (HNR.out o j ho h4))
            have hne : w.heap.size ≠ w.heap.size + 1 := by omega
            have hgz : w.heap.size ≤ g1 := by
              rcases HAT.out with h | h
              · exact hring.za g1 h
              · have : g1 = w4.heap.size + 1 := by rw [h]; simp
                omega
            have hgr : g1 ≠ w.heap.size + 1 := by
              rcases HAT.out with h | h
              · intro e1
                obtain ⟨c, hc⟩ := ownsRow_elem hva g1 h
                rw [e1, r4] at hc; simp at hc
              · have : g1 = w4.heap.size + 1 := by rw [h]; simp
                have := (Array.getElem?_eq_some_iff.1 r4).1
                omega
            refine ⟨⟨k + 1, .slice (some ⟨g1, 0, none⟩) (L.length + 1) cap1, L ++ [⟨nm, key, 0, wr.heap.size + 1⟩], by simp, by have := HL.out; omega, ?_, ?_, ?_, ?_⟩, ?_⟩
            · refine ring_snoc hring ⟨nm, key, 0, wr.heap.size + 1⟩ (by show w.heap.size ≤ wr.heap.size + 1; omega) HNO.out HNP.out (by show nm.size ≤ 128; omega) (by have h1 := HLK.out; have h2 := HL.out; have h3 := HT1.out; omega) ?_ ?_ ?_ ?_ ?_ ?_
              · rw [heap_setCell_same HR5.out]; rfl
              · exact keep _ _ (fun c e1 => by cases e1) hne m4
              · exact ownsRow_set_aside HO5.out (fun e1 => hgr (Option.some.inj e1).symm)
              · intro g hg
                obtain rfl := Option.some.inj hg
                exact hgz
              · exact keep _ _ (fun c e1 => by cases e1) (by show wr.heap.size + 1 ≠ _; omega) ((o4 _ (by show wr.heap.size + 1 ≠ _; omega)).trans p3)
              · intro e he
                have h1 := hring.hp e he
                have h2 := (Array.getElem?_eq_some_iff.1 h1).1
                have h3 : e.p ≠ w.heap.size := fun e1 => by rw [e1, hring.hm] at h1; simp at h1
                have h5 : e.p ≠ w.heap.size + 1 := fun e1 => by rw [e1, hring.hr] at h1; simp at h1
                rw [h1]
                exact keep _ _ (fun c e1 => by cases e1) h5 (((o4 _ h3).trans (o3 _ h2)).trans h1)
            · rw [HT.out]
              have := HA.out
              simp only [abs, fresh, List.map_append] at this ⊢
              rw [this]; rfl
            · rw [HT.out, ← HCO.out, HD.out, code, if_neg HBAD.out, if_neg ?_]
              · simp [names]
              · intro hin
                have h1 : (abs L).map (fun t => t.1.data.toList) = names (l.take k) := by rw [HA.out]; simp [fresh, names, Function.comp_def]
                rw [← h1] at hin
                obtain ⟨x, hx, hx2⟩ := List.mem_map.1 hin
                obtain ⟨y, hy, rfl⟩ := List.mem_map.1 hx
                exact HNO.out y hy (ba_ext hx2)
            · refine Below.setCell ?_ (by show w.heap.size ≤ w.heap.size + 1; omega) _
              refine Below.grown ?_ HG.out (by simp; omega) (fun j hj => hring.za j hj)
              refine Below.alloc ?_ (by omega) _
              rw [HW4.out]
              exact ⟨b3.os, b3.tape, b3.output, by simpa [setBlock] using b3.size, fun j hj => (heap_setBlock_ne (by omega) _).trans (b3.block j hj)⟩
            · have h2 := HL.out
              simp [intOf]; omega
      · obtain rfl : k = n := by omega
        have HX : Hid (newCode l = 0) := by
          show newCode l = 0
          rw [HC.out, ← HCO.out, HN.out, List.drop_length, code]
        have t2 : decide ((k : Int) < (k : Int)) = false := decide_eq_false (by omega)
        clear hring habs hcode hbel
        go_wp2
        go_ret2
        have h1 := HA.out
        rw [HN.out, List.take_length] at h1
        exact ⟨HB.out, Or.inl ⟨HX.out, _, _, _, _, rfl, HRG.out, h1⟩⟩
end Go.Proofs.Ytofikcmjpecmoaa
