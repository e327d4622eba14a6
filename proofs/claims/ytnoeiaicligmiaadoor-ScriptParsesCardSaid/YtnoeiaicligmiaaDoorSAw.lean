/- What a law may lean on in its world; the walk of awake. -/
import Derived.Test.YtnoeiaicligmiaaDoorSPrs
import Derived.Test.YtnoeiaicligmiaaDoorSFmt
import Derived.Test.YtnoeiaicligmiaaDoorSEqQ
import Derived.Test.YtnoeiaicligmiaaDoorSEqD
namespace Go.Proofs.YtnoeiaicligmiaaDoor
set_option linter.unusedVariables false
set_option linter.unusedSimpArgs false
open Go Go.RowKit
structure Env (w : World) : Prop where
  tab : TabB w.heap.size w
  max : ∃ m, w.cell? ⟨1, 0, none⟩ = some (.int .i64 m)
theorem Env.below {w w' : World} (h : Env w) (hb : Below w.heap.size w w') : Env w' := by
  refine ⟨fun x hx => h.tab x (hb.trans (hx.mono hb.size)), ?_⟩
  obtain ⟨m, hm⟩ := h.max
  exact ⟨m, (hb.cell (p := ⟨1, 0, none⟩) (cell_lt hm)).trans hm⟩
def awS : ScrD := ⟨7, [[⟨1, 0, ⟨#[97]⟩, 5, 0⟩]], [0, 0]⟩
def awT : List UInt8 := [109, 97, 115, 107, 32, 55, 10, 116, 104, 114, 101, 97, 100, 10, 49, 32, 48, 32, 120, 54, 49, 32, 53, 32, 48, 10, 112, 105, 99, 107, 115, 32, 48, 32, 48, 10]
theorem aw_text : textS awS = awT := by
  simp [textS, awS, awT, natT, threadT, lineT, keyT, Lib.itoa, hexD, maskW, threadW, picksW, dec_one]
theorem aw_ok : ScrOk awS := ⟨by decide, by decide, fun t ht o ho => by
  simp only [awS, List.mem_singleton] at ht
  subst ht
  simp only [List.mem_singleton] at ho
  subst ho
  exact ⟨by decide, by decide, by decide, by decide, by decide, by decide, by decide, by decide⟩, fun p hp => by
  simp only [awS, List.mem_cons, List.not_mem_nil, or_false] at hp
  rcases hp with rfl | rfl <;> omega⟩
theorem aw_check : checkS awS = 0 := by decide
theorem aw_format : formatS awS = (awT, 0) := by
  unfold formatS
  rw [if_neg (by simp [aw_check]), aw_text, if_neg (by decide)]
theorem aw_parse : parseS awT = (awS, 0, 0) := by
  rw [← aw_text]
  exact parse_text awS aw_ok aw_check (by rw [aw_text]; decide)
def awOp : Array Value := #[.int .i64 1, .int .i64 0, .string ⟨#[97]⟩, .int .u64 5, .int .u64 0]
theorem awS_at {w : World} {z : Nat} {t0 t1 t2 : TypeId} (h0 : w.heap[z]? = some (.cells awOp t0 (0, 0))) (h1 : w.heap[z + 1]? = some (.cells #[.slice (some ⟨z, 0, none⟩) 1 1] t1 (0, 0))) (h2 : w.heap[z + 2]? = some (.cells #[.int .i64 0, .int .i64 0] t2 (0, 0))) :
    ScrAt w (some ⟨z + 1, 0, none⟩) (some ⟨z + 2, 0, none⟩) awS := by
  have lt : ∀ {k : Nat} {o : Obj}, w.heap[k]? = some o → k < w.heap.size := fun h => (Array.getElem?_eq_some_iff.1 h).1
  refine ⟨fun _ => ⟨z + 1, 0, rfl, lt h1, fun i t hi => ?_⟩, fun _ => ⟨z + 2, 0, rfl, lt h2, fun i p hi => ?_⟩, by decide, by decide, by decide⟩
  · match i, hi with
    | 0, hi =>
      simp only [awS, List.getElem?_cons_zero, Option.some.injEq] at hi
      subst hi
      refine ⟨some ⟨z, 0, none⟩, 1, blk_cell h1 0, fun _ => ⟨z, 0, rfl, lt h0, fun k o hk => ?_⟩⟩
      match k, hk with
      | 0, hk =>
        simp only [List.getElem?_cons_zero, Option.some.injEq] at hk
        subst hk
        exact ⟨blk_cell h0 0, blk_cell h0 1, blk_cell h0 2, blk_cell h0 3, blk_cell h0 4⟩
      | k + 1, hk => simp at hk
    | i + 1, hi => simp [awS] at hi
  · match i, hi with
    | 0, hi =>
      simp only [awS, List.getElem?_cons_zero, Option.some.injEq] at hi
      subst hi
      exact blk_cell h2 0
    | 1, hi =>
      simp only [awS, List.getElem?_cons_succ, List.getElem?_cons_zero, Option.some.injEq] at hi
      subst hi
      exact blk_cell h2 1
    | i + 2, hi => simp [awS] at hi
def awBox (z : Nat) : Obj := .cells #[.int .u64 7, .slice (some ⟨z + 1, 0, none⟩) 1 1, .slice (some ⟨z + 1 + 1, 0, none⟩) 2 2] 32
def aw0 (w : World) : World := (((w.alloc (.cells awOp 39)).alloc (.cells #[.slice (some ⟨w.heap.size, 0, none⟩) 1 1] 49)).alloc (.cells #[.int .i64 0, .int .i64 0] 3)).alloc (awBox w.heap.size)
theorem aw0_below (w : World) : Below w.heap.size w (aw0 w) := ((((Below.refl _ _).alloc (Nat.le_refl _) _).alloc (by simp) _).alloc (by simp; omega) _).alloc (by simp; omega) _
theorem aw0_size (w : World) : (aw0 w).heap.size = w.heap.size + 4 := by simp [aw0]
theorem aw0_box (w : World) : (aw0 w).heap[w.heap.size + 1 + 1 + 1]? = some (awBox w.heap.size) := by
  have := (MapKept.heap_alloc (((w.alloc (.cells awOp 39)).alloc (.cells #[.slice (some ⟨w.heap.size, 0, none⟩) 1 1] 49)).alloc (.cells #[.int .i64 0, .int .i64 0] 3)) (awBox w.heap.size)).1
  rw [show (((w.alloc (.cells awOp 39)).alloc (.cells #[.slice (some ⟨w.heap.size, 0, none⟩) 1 1] 49)).alloc (.cells #[.int .i64 0, .int .i64 0] 3)).heap.size = w.heap.size + 1 + 1 + 1 by simp] at this
  exact this
theorem aw0_at (w : World) : ScrAt (aw0 w) (some ⟨w.heap.size + 1, 0, none⟩) (some ⟨w.heap.size + 1 + 1, 0, none⟩) awS := by
  refine awS_at (z := w.heap.size) (t0 := 39) (t1 := 49) (t2 := 3) ?_ ?_ ?_
  · unfold aw0
    rw [Below.heap_alloc _ _ _ (by simp <;> omega), Below.heap_alloc _ _ _ (by simp <;> omega), Below.heap_alloc _ _ _ (by simp)]
    exact (MapKept.heap_alloc w _).1
  · unfold aw0
    rw [Below.heap_alloc _ _ _ (by simp <;> omega), Below.heap_alloc _ _ _ (by simp)]
    have := (MapKept.heap_alloc (w.alloc (.cells awOp 39)) (.cells #[.slice (some ⟨w.heap.size, 0, none⟩) 1 1] 49)).1
    rwa [show (w.alloc (.cells awOp 39)).heap.size = w.heap.size + 1 by simp] at this
  · unfold aw0
    rw [Below.heap_alloc _ _ _ (by simp)]
    have := (MapKept.heap_alloc ((w.alloc (.cells awOp 39)).alloc (.cells #[.slice (some ⟨w.heap.size, 0, none⟩) 1 1] 49)) (.cells #[.int .i64 0, .int .i64 0] 3)).1
    rwa [show ((w.alloc (.cells awOp 39)).alloc (.cells #[.slice (some ⟨w.heap.size, 0, none⟩) 1 1] 49)).heap.size = w.heap.size + 2 by simp] at this
theorem aw_parsed {w w' : World} {e : Ending} (h : ParsePost w awT e w') : ∃ A c D d, e = .returned (.tuple #[.agg #[.int .u64 7, .slice A 1 c, .slice D 2 d], .int .i64 0, .int .i64 0]) ∧ ScrAt w' A D awS ∧ Below w.heap.size w w' := by
  obtain ⟨A, c, D, d, h1, h2, h3⟩ := h
  rw [aw_parse] at h1 h2
  exact ⟨A, c, D, d, h1, h2, h3⟩
set_option maxRecDepth 100000 in
set_option maxHeartbeats 1000000 in
theorem awake_any (w : World) (env : Env w) : Calls Tryd.prog 12 #[] w fun e w' => e = .returned (.bool true) ∧ Below w.heap.size w w' := by
  have E := Lib.hid env
  have E0 := Lib.hid (env.below (aw0_below w))
  have FM : Calls Tryd.prog 16 #[.agg #[.int .u64 7, .slice (some ⟨w.heap.size + 1, 0, none⟩) 1 1, .slice (some ⟨w.heap.size + 1 + 1, 0, none⟩) 2 2]] (aw0 w) fun e w' => e = .returned (.tuple #[.string ⟨#[109, 97, 115, 107, 32, 55, 10, 116, 104, 114, 101, 97, 100, 10, 49, 32, 48, 32, 120, 54, 49, 32, 53, 32, 48, 10, 112, 105, 99, 107, 115, 32, 48, 32, 48, 10]⟩, .int .i64 0]) ∧ Below (aw0 w).heap.size (aw0 w) w' := by
    have := format_any (aw0 w) _ _ 1 2 awS (aw0_at w) aw_ok E0.out.tab
    rw [aw_format] at this
    exact this
  have PA : ∀ w1, Env w1 → Calls Tryd.prog 17 #[.string ⟨#[109, 97, 115, 107, 32, 55, 10, 116, 104, 114, 101, 97, 100, 10, 49, 32, 48, 32, 120, 54, 49, 32, 53, 32, 48, 10, 112, 105, 99, 107, 115, 32, 48, 32, 48, 10]⟩] w1 (ParsePost w1 awT) := fun w1 h1 => by
    obtain ⟨m, hm⟩ := h1.max
    exact parse_any w1 m hm awT (by decide)
  have FMH := Lib.hid FM
  have PAH := Lib.hid PA
  clear env FM PA
  go_enter Tryd.func12, Tryd.ntmps12
  go_wp2_with fail
  refine FMH.out.mono ?_
  rintro e w1 ⟨rfl, hb1⟩
  have B1 := Lib.hid hb1
  have E1 := Lib.hid (E0.out.below hb1)
  have hz1 : w.heap.size + 1 + 1 + 1 < w1.heap.size := by
    have := hb1.size
    rw [aw0_size] at this
    omega
  have X1 := Lib.hid ((hb1.block _ (by rw [aw0_size]; omega)).trans (aw0_box w))
  clear hb1
  go_wp2_with fail
  refine (PAH.out w1 E1.out).mono ?_
  intro e w2 hp2
  obtain ⟨A, c, D, d, rfl, hs2, hb2⟩ := aw_parsed hp2
  have B2 := Lib.hid hb2
  have S2 := Lib.hid hs2
  have X2 := Lib.hid ((hb2.block _ hz1).trans X1.out)
  have hz2 : w.heap.size + 1 + 1 + 1 < w2.heap.size := Nat.lt_of_lt_of_le hz1 hb2.size
  have S1 := Lib.hid ((aw0_at w).below (B1.out.trans (hb2.mono B1.out.size)))
  have c0 : w2.cell? ⟨w.heap.size + 1 + 1 + 1, 0, none⟩ = some (.int .u64 7) := blk_cell X2.out 0
  have c1 : w2.cell? ⟨w.heap.size + 1 + 1 + 1, 1, none⟩ = some (.slice (some ⟨w.heap.size + 1, 0, none⟩) 1 1) := blk_cell X2.out 1
  have c2 : w2.cell? ⟨w.heap.size + 1 + 1 + 1, 2, none⟩ = some (.slice (some ⟨w.heap.size + 1 + 1, 0, none⟩) 2 2) := blk_cell X2.out 2
  clear hp2 hs2 hb2
  go_wp2_with fail
  have EQ := requal_same (w2.alloc (.cells #[.int .u64 7, .slice A 1 c, .slice D 2 d] 32)) A D _ _ c d 1 2 awS (S2.out.below ((Below.refl _ _).alloc (Nat.le_refl _) _)) (S1.out.below ((Below.refl _ _).alloc (Nat.le_refl _) _))
  refine EQ.mono ?_
  rintro e w3 ⟨rfl, hb3⟩
  have B3 := Lib.hid hb3
  clear hb3 EQ
  go_wp2_with fail
  go_ret
  refine ⟨rfl, ((aw0_below w).trans (B1.out.mono (by rw [aw0_size]; omega))).trans ((B2.out.mono (by omega)).trans ((((Below.refl _ _).alloc (Nat.le_refl _) _).trans (B3.out.mono (by simp))).mono (by omega)))⟩
end Go.Proofs.YtnoeiaicligmiaaDoor
