/- The walk of the reference's Equal. -/
import Derived.Test.YtnoeiaicligmiaaDoorSEq
import Derived.MapKept
namespace Go.Proofs.YtnoeiaicligmiaaDoor
set_option linter.unusedVariables false
set_option linter.unusedSimpArgs false
open Go Go.RowKit
theorem picks_cell {w wr : World} {A : Option Addr} {ps : List Int} (h : PicksAt w A ps) (hw : ∀ b, b < w.heap.size → wr.heap[b]? = w.heap[b]?) {k : Nat} {p : Int} (hk : ps[k]? = some p) :
    ∃ b off, A = some ⟨b, off, none⟩ ∧ wr.cell? ⟨b, off + k, none⟩ = some (.int .i64 p) := by
  obtain ⟨b, off, hu, hlt, hc⟩ := h (by have := (List.getElem?_eq_some_iff.1 hk).1; omega)
  exact ⟨b, off, hu, (World.cell?_of_block (hw b hlt)).trans (hc k p hk)⟩
theorem thr_cell2 {w wr : World} {A : Option Addr} {ts : List (List OpD)} (h : ThrAt w A ts) (hz : w.heap.size ≤ wr.heap.size) (hw : ∀ b, b < w.heap.size → wr.heap[b]? = w.heap[b]?) {i : Nat} {t : List OpD} (hi : ts[i]? = some t) :
    ∃ b off u c, A = some ⟨b, off, none⟩ ∧ wr.cell? ⟨b, off + i, none⟩ = some (.slice u t.length c) ∧ OpsAt wr u t := by
  obtain ⟨b, off, hA, hlt, hc⟩ := h (by have := (List.getElem?_eq_some_iff.1 hi).1; omega)
  obtain ⟨u, c, c0, c1⟩ := hc i t hi
  exact ⟨b, off, u, c, hA, (World.cell?_of_block (hw b hlt)).trans c0, c1.keep hz hw⟩
/-- the two boxes of the arguments -/
def Boxed (w : World) (o1 o2 : Obj) (wr : World) : Prop := FewDraws ((w.alloc o1).alloc o2) wr
theorem Boxed.below {w wr : World} {o1 o2 : Obj} (h : Boxed w o1 o2 wr) : Below w.heap.size w wr :=
  (((Below.refl _ _).alloc (Nat.le_refl _) o1).alloc (by simp) o2).trans (FewDraws.below h _)
theorem Boxed.one {w wr : World} {o1 o2 : Obj} (h : Boxed w o1 o2 wr) : wr.heap[w.heap.size]? = some o1 := by
  rw [FewDraws.heap h, Below.heap_alloc _ _ _ (by simp)]
  exact (MapKept.heap_alloc w o1).1
theorem Boxed.two {w wr : World} {o1 o2 : Obj} (h : Boxed w o1 o2 wr) : wr.heap[w.heap.size + 1]? = some o2 := by
  rw [FewDraws.heap h]
  have := (MapKept.heap_alloc (w.alloc o1) o2).1
  simpa using this
theorem blk_cell {w : World} {g : Nat} {t : TypeId} {cs : Array Value} (h : w.heap[g]? = some (.cells cs t (0, 0))) (i : Nat) : w.cell? ⟨g, i, none⟩ = cs[i]? := by
  simp [World.cell?, h]
def EqL1 (w : World) (o1 o2 : Obj) (a b : List Int) (i : Value) (wr : World) : Prop := ∃ k : Nat, k ≤ a.length ∧ i = .int .i64 k ∧ (∀ j, j < k → a[j]? = b[j]?) ∧ Boxed w o1 o2 wr
def EqL2 (w : World) (o1 o2 : Obj) (a b : List (List OpD)) (i : Value) (wr : World) : Prop := ∃ k : Nat, k ≤ a.length ∧ i = .int .i64 k ∧ (∀ j, j < k → a[j]? = b[j]?) ∧ Boxed w o1 o2 wr
def boxS (m : Int) (A : Option Addr) (n c : Nat) (D : Option Addr) (p d : Nat) : Obj := .cells #[.int .u64 m, .slice A n c, .slice D p d] 32
theorem list_eq {α : Type} {a b : List α} (hl : a.length = b.length) (h : ∀ j, j < a.length → a[j]? = b[j]?) : a = b := by
  apply List.ext_getElem?
  intro i
  by_cases hi : i < a.length
  · exact h i hi
  · rw [List.getElem?_eq_none (by omega), List.getElem?_eq_none (by omega)]
theorem below_drews {B : Nat} {w w' : World} (h : Below B w w') (n : Nat) : Below B w (w'.drewN n) := ⟨h.os, h.tape, h.output, h.size, h.block⟩
set_option maxRecDepth 100000 in
set_option maxHeartbeats 2000000 in
theorem requal_same (w : World) (A D A' D' : Option Addr) (c d c' d' : Nat) (s : ScrD) (h : ScrAt w A D s) (h' : ScrAt w A' D' s) :
    Calls Tryd.prog 18 #[scrV s.mask A s.threads.length c D s.picks.length d, scrV s.mask A' s.threads.length c' D' s.picks.length d'] w fun e w' => e = .returned (.bool true) ∧ Below w.heap.size w w' := by
  obtain ⟨m, ts, ps⟩ := s
  have hl0 := h.l0
  have hl1 := h.l1
  have L2 := Lib.hid h.l2
  have HT := Lib.hid h.thr
  have HT' := Lib.hid h'.thr
  have HP := Lib.hid h.pks
  have HP' := Lib.hid h'.pks
  simp only [scrV] at *
  clear h h'
  go_enter Tryd.func18, Tryd.ntmps18
  go_wp2_with fail
  go_loopw [5] (fun i wr => EqL1 w (boxS m A ts.length c D ps.length d) (boxS m A' ts.length c' D' ps.length d') ps ps i wr) (fun i _ => ps.length - (intOf i).toNat)
  case atStart => exact ⟨0, by omega, rfl, fun j hj => rfl, FewDraws.refl _⟩
  case round =>
    obtain ⟨k, hk, rfl, hall, hf⟩ := hrel
    have x1 := blk_cell hf.one
    have x2 := blk_cell hf.two
    have HF := Lib.hid hf
    clear hall hf
    by_cases hlt : k < ps.length
    · obtain ⟨p, hp⟩ : ∃ p, ps[k]? = some p := ⟨_, List.getElem?_eq_getElem hlt⟩
      obtain ⟨b1, o1, rfl, c0⟩ := picks_cell HP.out HF.out.below.block hp
      obtain ⟨b2, o2, rfl, d0⟩ := picks_cell HP'.out HF.out.below.block hp
      have hj0 : (0 : Int) ≤ k := by omega
      have hj1 : (k : Int) < ps.length := by omega
      clear hp
      go_wp2_with fail
      go_quiet (fail)
      go_wp2_with fail
      go_roundw
      case rel => exact ⟨k + 1, by omega, by go_num, fun j hj => rfl, FewDraws.drewN HF.out _⟩
      case measure => simp [intOf]; omega
    · go_wp2_with fail
      go_loopw [6] (fun i wr => EqL2 w (boxS m A ts.length c D ps.length d) (boxS m A' ts.length c' D' ps.length d') ts ts i wr) (fun i _ => ts.length - (intOf i).toNat)
      case atStart => exact ⟨0, by omega, rfl, fun j hj => rfl, HF.out⟩
      case round =>
        clear x1 x2
        obtain ⟨k2, hk2, rfl, hall, hf⟩ := hrel
        have x1 := blk_cell hf.one
        have x2 := blk_cell hf.two
        clear HF
        have HF := Lib.hid hf
        clear hall hf
        by_cases hlt2 : k2 < ts.length
        · obtain ⟨t, ht⟩ : ∃ t, ts[k2]? = some t := ⟨_, List.getElem?_eq_getElem hlt2⟩
          obtain ⟨b1, o1, u1, e1, rfl, c0, c1⟩ := thr_cell2 HT.out HF.out.below.size HF.out.below.block ht
          obtain ⟨b2, o2, u2, e2, rfl, d0, d1⟩ := thr_cell2 HT'.out HF.out.below.size HF.out.below.block ht
          have lt := L2.out t (List.mem_of_getElem? ht)
          have C1 := Lib.hid c1
          have D1 := Lib.hid d1
          have hj0 : (0 : Int) ≤ k2 := by omega
          have hj1 : (k2 : Int) < ts.length := by omega
          clear ht c1 d1
          go_wp2_with fail
          go_quiet ((go_at_call 38; exact Calls.quiet_of (ops_same _ u1 u2 e1 e2 t C1.out D1.out lt)))
          go_wp2_with fail
          go_roundw
          case rel => exact ⟨k2 + 1, by omega, by go_num, fun j hj => rfl, FewDraws.drewN HF.out _⟩
          case measure => simp [intOf]; omega
        · go_wp2_with fail
          go_ret
          exact ⟨rfl, HF.out.below⟩
end Go.Proofs.YtnoeiaicligmiaaDoor
