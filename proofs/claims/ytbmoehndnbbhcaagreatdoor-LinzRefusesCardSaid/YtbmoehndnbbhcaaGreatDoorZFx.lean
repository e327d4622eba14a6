/- The walk of the law's example. -/
import Derived.Test.YtbmoehndnbbhcaaGreatDoorMZFs
import Derived.Deep.RegionHeld3
namespace Go.Proofs.YtbmoehndnbbhcaaGreatDoor
set_option linter.unusedVariables false
set_option linter.unusedSimpArgs false
open Go Go.RowKit Go.MapKept
def kA : ByteArray := ⟨#[97]⟩
def exTs : List (List OpD) := [[⟨1, 0, kA, 1, 0⟩], [⟨7, 0, kA, 0, 0⟩]]
def eIn : EvD := ⟨0, 0, false, ResF.zero⟩
def eOut : EvD := ⟨0, 0, true, ⟨0, false, 0, ⟨#[]⟩, 1, 0, 0, false⟩⟩
def eBeg : EvD := ⟨1, 0, false, ResF.zero⟩
def eEnd : EvD := ⟨1, 0, true, ResF.zero⟩
def exL : Bool → List EvD
  | true => [eIn, eOut, eBeg, eEnd]
  | false => [eIn, eBeg, eOut, eEnd]
theorem flat11 : ∀ (l : List EvD) (k j : Nat) (e : EvD), l[k]? = some e → j < 11 → (l.flatMap EvD.cells)[k * 11 + j]? = e.cells[j]?
  | [], k, j, e, h, _ => by simp at h
  | x :: r, 0, j, e, h, hj => by
    simp only [List.getElem?_cons_zero, Option.some.injEq] at h
    subst h
    rw [List.flatMap_cons, List.getElem?_append_left (by show 0 * 11 + j < 11; omega), Nat.zero_mul, Nat.zero_add]
  | x :: r, k + 1, j, e, h, hj => by
    rw [List.getElem?_cons_succ] at h
    have hx : x.cells.length = 11 := rfl
    rw [List.flatMap_cons, List.getElem?_append_right (by rw [hx]; omega), hx, show (k + 1) * 11 + j - 11 = k * 11 + j by omega]
    exact flat11 r k j e h hj
theorem evs_box {W : World} {b : Nat} {T : TypeId} {l : List EvD} (h : W.heap[b]? = some (.cells (l.flatMap EvD.cells).toArray T (0, 0))) : EvsAt W (some ⟨b, 0, none⟩) l := fun _ =>
  ⟨b, 0, rfl, (Array.getElem?_eq_some_iff.1 h).1, fun k e he j v hj => by
    have hj' : j < 11 := (List.getElem?_eq_some_iff.1 hj).1
    rw [Nat.zero_add, blk_cell h, List.getElem?_toArray, flat11 l k j e he hj', hj]⟩
theorem thr_ex {W : World} {a b t : Nat} {T U : TypeId} (h0 : W.heap[a]? = some (.cells #[.int .i64 1, .int .i64 0, .string ⟨#[97]⟩, .int .u64 1, .int .u64 0] T (0, 0))) (h1 : W.heap[b]? = some (.cells #[.int .i64 7, .int .i64 0, .string ⟨#[97]⟩, .int .u64 0, .int .u64 0] T (0, 0)))
    (h2 : W.heap[t]? = some (.cells #[.slice (some ⟨a, 0, none⟩) 1 1, .slice (some ⟨b, 0, none⟩) 1 1] U (0, 0))) : ThrAt W (some ⟨t, 0, none⟩) exTs := fun _ => by
  refine ⟨t, 0, rfl, (Array.getElem?_eq_some_iff.1 h2).1, fun i x hx => ?_⟩
  match i, hx with
  | 0, hx =>
    simp only [exTs, List.getElem?_cons_zero, Option.some.injEq] at hx
    subst hx
    refine ⟨some ⟨a, 0, none⟩, 1, by rw [blk_cell h2]; rfl, fun _ => ⟨a, 0, rfl, (Array.getElem?_eq_some_iff.1 h0).1, fun k o ho => ?_⟩⟩
    match k, ho with
    | 0, ho =>
      simp only [List.getElem?_cons_zero, Option.some.injEq] at ho
      subst ho
      exact ⟨blk_cell h0 0, blk_cell h0 1, blk_cell h0 2, blk_cell h0 3, blk_cell h0 4⟩
    | k + 1, ho => simp at ho
  | 1, hx =>
    simp only [exTs, List.getElem?_cons_succ, List.getElem?_cons_zero, Option.some.injEq] at hx
    subst hx
    refine ⟨some ⟨b, 0, none⟩, 1, by rw [blk_cell h2]; rfl, fun _ => ⟨b, 0, rfl, (Array.getElem?_eq_some_iff.1 h1).1, fun k o ho => ?_⟩⟩
    match k, ho with
    | 0, ho =>
      simp only [List.getElem?_cons_zero, Option.some.injEq] at ho
      subst ho
      exact ⟨blk_cell h1 0, blk_cell h1 1, blk_cell h1 2, blk_cell h1 3, blk_cell h1 4⟩
    | k + 1, ho => simp at ho
  | i + 2, hx => simp [exTs] at hx
def ExPost (late : Bool) (w : World) (e : Ending) (w' : World) : Prop :=
  ∃ (A B : Option Addr) (c d : Nat), e = .returned (.tuple #[.slice A exTs.length c, .slice B (exL late).length d]) ∧ ThrAt w' A exTs ∧ EvsAt w' B (exL late) ∧ Below w.heap.size w w'
/-- what lies in memory behind the fourth line -/
def ExMem (n : Nat) (W : World) : Prop := W.heap.size = n + 7 ∧
  W.heap[n]? = some (.cells #[.int .i64 1, .int .i64 0, .string ⟨#[97]⟩, .int .u64 1, .int .u64 0] 60 (0, 0)) ∧ W.heap[n + 1]? = some (.cells #[.int .i64 7, .int .i64 0, .string ⟨#[97]⟩, .int .u64 0, .int .u64 0] 60 (0, 0)) ∧
  W.heap[n + 2]? = some (.cells #[.slice (some ⟨n, 0, none⟩) 1 1, .slice (some ⟨n + 1, 0, none⟩) 1 1] 38 (0, 0)) ∧
  W.heap[n + 3]? = some (.cells #[.int .i64 0, .int .i64 0, .bool false, .int .i64 0, .bool false, .int .u64 0, .string ⟨#[]⟩, .int .i64 0, .int .i64 0, .int .i64 0, .bool false] 47 (0, 0)) ∧ W.heap[n + 4]? = some (.cells #[.int .i64 0, .int .i64 0, .bool true, .int .i64 0, .bool false, .int .u64 0, .string ⟨#[]⟩, .int .i64 1, .int .i64 0, .int .i64 0, .bool false] 47 (0, 0)) ∧ W.heap[n + 5]? = some (.cells #[.int .i64 1, .int .i64 0, .bool false, .int .i64 0, .bool false, .int .u64 0, .string ⟨#[]⟩, .int .i64 0, .int .i64 0, .int .i64 0, .bool false] 47 (0, 0)) ∧ W.heap[n + 6]? = some (.cells #[.int .i64 1, .int .i64 0, .bool true, .int .i64 0, .bool false, .int .u64 0, .string ⟨#[]⟩, .int .i64 0, .int .i64 0, .int .i64 0, .bool false] 47 (0, 0))
def ExCells (n : Nat) (W : World) : Prop := W.cell? ⟨n + 3, 0, none⟩ = some (.int .i64 0) ∧ W.cell? ⟨n + 3, 1, none⟩ = some (.int .i64 0) ∧ W.cell? ⟨n + 3, 2, none⟩ = some (.bool false) ∧ W.cell? ⟨n + 3, 3, none⟩ = some (.int .i64 0) ∧ W.cell? ⟨n + 3, 4, none⟩ = some (.bool false) ∧ W.cell? ⟨n + 3, 5, none⟩ = some (.int .u64 0) ∧ W.cell? ⟨n + 3, 6, none⟩ = some (.string ⟨#[]⟩) ∧ W.cell? ⟨n + 3, 7, none⟩ = some (.int .i64 0) ∧ W.cell? ⟨n + 3, 8, none⟩ = some (.int .i64 0) ∧ W.cell? ⟨n + 3, 9, none⟩ = some (.int .i64 0) ∧ W.cell? ⟨n + 3, 10, none⟩ = some (.bool false) ∧ W.cell? ⟨n + 4, 0, none⟩ = some (.int .i64 0) ∧ W.cell? ⟨n + 4, 1, none⟩ = some (.int .i64 0) ∧ W.cell? ⟨n + 4, 2, none⟩ = some (.bool true) ∧ W.cell? ⟨n + 4, 3, none⟩ = some (.int .i64 0) ∧ W.cell? ⟨n + 4, 4, none⟩ = some (.bool false) ∧ W.cell? ⟨n + 4, 5, none⟩ = some (.int .u64 0) ∧ W.cell? ⟨n + 4, 6, none⟩ = some (.string ⟨#[]⟩) ∧ W.cell? ⟨n + 4, 7, none⟩ = some (.int .i64 1) ∧ W.cell? ⟨n + 4, 8, none⟩ = some (.int .i64 0) ∧ W.cell? ⟨n + 4, 9, none⟩ = some (.int .i64 0) ∧ W.cell? ⟨n + 4, 10, none⟩ = some (.bool false) ∧ W.cell? ⟨n + 5, 0, none⟩ = some (.int .i64 1) ∧ W.cell? ⟨n + 5, 1, none⟩ = some (.int .i64 0) ∧ W.cell? ⟨n + 5, 2, none⟩ = some (.bool false) ∧ W.cell? ⟨n + 5, 3, none⟩ = some (.int .i64 0) ∧ W.cell? ⟨n + 5, 4, none⟩ = some (.bool false) ∧ W.cell? ⟨n + 5, 5, none⟩ = some (.int .u64 0) ∧ W.cell? ⟨n + 5, 6, none⟩ = some (.string ⟨#[]⟩) ∧ W.cell? ⟨n + 5, 7, none⟩ = some (.int .i64 0) ∧ W.cell? ⟨n + 5, 8, none⟩ = some (.int .i64 0) ∧ W.cell? ⟨n + 5, 9, none⟩ = some (.int .i64 0) ∧ W.cell? ⟨n + 5, 10, none⟩ = some (.bool false) ∧ W.cell? ⟨n + 6, 0, none⟩ = some (.int .i64 1) ∧ W.cell? ⟨n + 6, 1, none⟩ = some (.int .i64 0) ∧ W.cell? ⟨n + 6, 2, none⟩ = some (.bool true) ∧ W.cell? ⟨n + 6, 3, none⟩ = some (.int .i64 0) ∧ W.cell? ⟨n + 6, 4, none⟩ = some (.bool false) ∧ W.cell? ⟨n + 6, 5, none⟩ = some (.int .u64 0) ∧ W.cell? ⟨n + 6, 6, none⟩ = some (.string ⟨#[]⟩) ∧ W.cell? ⟨n + 6, 7, none⟩ = some (.int .i64 0) ∧ W.cell? ⟨n + 6, 8, none⟩ = some (.int .i64 0) ∧ W.cell? ⟨n + 6, 9, none⟩ = some (.int .i64 0) ∧ W.cell? ⟨n + 6, 10, none⟩ = some (.bool false)
theorem exCellsB {n : Nat} {W W' : World} (h : ExMem n W) (hb : Below W.heap.size W W') : ExCells n W' := by
  obtain ⟨_, _, _, _, h3, h4, h5, h6⟩ := h
  have k3 := kept_block h3 hb
  have k4 := kept_block h4 hb
  have k5 := kept_block h5 hb
  have k6 := kept_block h6 hb
  exact ⟨blk_cell k3 0, blk_cell k3 1, blk_cell k3 2, blk_cell k3 3, blk_cell k3 4, blk_cell k3 5, blk_cell k3 6, blk_cell k3 7, blk_cell k3 8, blk_cell k3 9, blk_cell k3 10, blk_cell k4 0, blk_cell k4 1, blk_cell k4 2, blk_cell k4 3, blk_cell k4 4, blk_cell k4 5, blk_cell k4 6, blk_cell k4 7, blk_cell k4 8, blk_cell k4 9, blk_cell k4 10, blk_cell k5 0, blk_cell k5 1, blk_cell k5 2, blk_cell k5 3, blk_cell k5 4, blk_cell k5 5, blk_cell k5 6, blk_cell k5 7, blk_cell k5 8, blk_cell k5 9, blk_cell k5 10, blk_cell k6 0, blk_cell k6 1, blk_cell k6 2, blk_cell k6 3, blk_cell k6 4, blk_cell k6 5, blk_cell k6 6, blk_cell k6 7, blk_cell k6 8, blk_cell k6 9, blk_cell k6 10⟩
theorem exMem_below {n : Nat} {W W' : World} (h : ExMem n W) (hb : Below W.heap.size W W') (hs : W'.heap.size = W.heap.size) : ExMem n W' := by
  obtain ⟨h0, h1, h2, h3, h4, h5, h6, h7⟩ := h
  exact ⟨by omega, kept_block h1 hb, kept_block h2 hb, kept_block h3 hb, kept_block h4 hb, kept_block h5 hb, kept_block h6 hb, kept_block h7 hb⟩
theorem ex_end {late : Bool} {n : Nat} {w W W' : World} {T : TypeId} (hn : n = w.heap.size) (h : ExMem n W) (hB : Below w.heap.size w W) (hb : Below W.heap.size W W') (he : W'.heap[n + 7]? = some (.cells ((exL late).flatMap EvD.cells).toArray T (0, 0))) :
    ExPost late w (.returned (.tuple #[.slice (some ⟨n + 2, 0, none⟩) 2 2, .slice (some ⟨n + 7, 0, none⟩) 4 4])) W' := by
  obtain ⟨h0, h1, h2, h3, _⟩ := h
  refine ⟨_, _, 2, 4, ?_, thr_ex (kept_block h1 hb) (kept_block h2 hb) (kept_block h3 hb), evs_box he, hB.trans (hb.mono hB.size)⟩
  cases late <;> rfl
set_option maxRecDepth 100000 in
set_option maxHeartbeats 2000000 in
theorem example_any (w : World) (late : Bool) : Calls Tryz.prog 10 #[.bool late] w (ExPost late w) := by
  obtain ⟨W1, hW1⟩ : ∃ W1, W1 = w.alloc (.cells #[.int .i64 1, .int .i64 0, .string ⟨#[97]⟩, .int .u64 1, .int .u64 0] 60) := ⟨_, rfl⟩
  have s1 : W1.heap.size = w.heap.size + 1 := by rw [hW1]; simp
  have a1 := (heap_alloc w (.cells #[.int .i64 1, .int .i64 0, .string ⟨#[97]⟩, .int .u64 1, .int .u64 0] 60)).1
  rw [← hW1] at a1
  have b1 : Below w.heap.size w W1 := by rw [hW1]; exact balZ (Below.refl _ _) _
  obtain ⟨W2, hW2⟩ : ∃ W2, W2 = W1.alloc (.cells #[.int .i64 7, .int .i64 0, .string ⟨#[97]⟩, .int .u64 0, .int .u64 0] 60) := ⟨_, rfl⟩
  have s2 : W2.heap.size = w.heap.size + 2 := by rw [hW2]; simp; omega
  have a2 := (heap_alloc W1 (.cells #[.int .i64 7, .int .i64 0, .string ⟨#[97]⟩, .int .u64 0, .int .u64 0] 60)).1
  rw [← hW2, s1] at a2
  have b2 : Below W1.heap.size W1 W2 := by rw [hW2]; exact balZ (Below.refl _ _) _
  obtain ⟨W3, hW3⟩ : ∃ W3, W3 = W2.alloc (.cells #[.slice (some ⟨w.heap.size, 0, none⟩) 1 1, .slice (some ⟨w.heap.size + 1, 0, none⟩) 1 1] 38) := ⟨_, rfl⟩
  have s3 : W3.heap.size = w.heap.size + 3 := by rw [hW3]; simp; omega
  have a3 := (heap_alloc W2 (.cells #[.slice (some ⟨w.heap.size, 0, none⟩) 1 1, .slice (some ⟨w.heap.size + 1, 0, none⟩) 1 1] 38)).1
  rw [← hW3, s2] at a3
  have b3 : Below W2.heap.size W2 W3 := by rw [hW3]; exact balZ (Below.refl _ _) _
  obtain ⟨W4, hW4⟩ : ∃ W4, W4 = W3.alloc (.cells #[.int .i64 0, .int .i64 0, .bool false, .int .i64 0, .bool false, .int .u64 0, .string ⟨#[]⟩, .int .i64 0, .int .i64 0, .int .i64 0, .bool false] 47) := ⟨_, rfl⟩
  have s4 : W4.heap.size = w.heap.size + 4 := by rw [hW4]; simp; omega
  have a4 := (heap_alloc W3 (.cells #[.int .i64 0, .int .i64 0, .bool false, .int .i64 0, .bool false, .int .u64 0, .string ⟨#[]⟩, .int .i64 0, .int .i64 0, .int .i64 0, .bool false] 47)).1
  rw [← hW4, s3] at a4
  have b4 : Below W3.heap.size W3 W4 := by rw [hW4]; exact balZ (Below.refl _ _) _
  obtain ⟨W5, hW5⟩ : ∃ W5, W5 = W4.alloc (.cells #[.int .i64 0, .int .i64 0, .bool true, .int .i64 0, .bool false, .int .u64 0, .string ⟨#[]⟩, .int .i64 1, .int .i64 0, .int .i64 0, .bool false] 47) := ⟨_, rfl⟩
  have s5 : W5.heap.size = w.heap.size + 5 := by rw [hW5]; simp; omega
  have a5 := (heap_alloc W4 (.cells #[.int .i64 0, .int .i64 0, .bool true, .int .i64 0, .bool false, .int .u64 0, .string ⟨#[]⟩, .int .i64 1, .int .i64 0, .int .i64 0, .bool false] 47)).1
  rw [← hW5, s4] at a5
  have b5 : Below W4.heap.size W4 W5 := by rw [hW5]; exact balZ (Below.refl _ _) _
  obtain ⟨W6, hW6⟩ : ∃ W6, W6 = W5.alloc (.cells #[.int .i64 1, .int .i64 0, .bool false, .int .i64 0, .bool false, .int .u64 0, .string ⟨#[]⟩, .int .i64 0, .int .i64 0, .int .i64 0, .bool false] 47) := ⟨_, rfl⟩
  have s6 : W6.heap.size = w.heap.size + 6 := by rw [hW6]; simp; omega
  have a6 := (heap_alloc W5 (.cells #[.int .i64 1, .int .i64 0, .bool false, .int .i64 0, .bool false, .int .u64 0, .string ⟨#[]⟩, .int .i64 0, .int .i64 0, .int .i64 0, .bool false] 47)).1
  rw [← hW6, s5] at a6
  have b6 : Below W5.heap.size W5 W6 := by rw [hW6]; exact balZ (Below.refl _ _) _
  obtain ⟨W7, hW7⟩ : ∃ W7, W7 = W6.alloc (.cells #[.int .i64 1, .int .i64 0, .bool true, .int .i64 0, .bool false, .int .u64 0, .string ⟨#[]⟩, .int .i64 0, .int .i64 0, .int .i64 0, .bool false] 47) := ⟨_, rfl⟩
  have s7 : W7.heap.size = w.heap.size + 7 := by rw [hW7]; simp; omega
  have a7 := (heap_alloc W6 (.cells #[.int .i64 1, .int .i64 0, .bool true, .int .i64 0, .bool false, .int .u64 0, .string ⟨#[]⟩, .int .i64 0, .int .i64 0, .int .i64 0, .bool false] 47)).1
  rw [← hW7, s6] at a7
  have b7 : Below W6.heap.size W6 W7 := by rw [hW7]; exact balZ (Below.refl _ _) _
  have c7 := Below.refl W7.heap.size W7
  have c6 := b7.trans (c7.mono b7.size)
  have c5 := b6.trans (c6.mono b6.size)
  have c4 := b5.trans (c5.mono b5.size)
  have c3 := b4.trans (c4.mono b4.size)
  have c2 := b3.trans (c3.mono b3.size)
  have c1 := b2.trans (c2.mono b2.size)
  have c0 := b1.trans (c1.mono b1.size)
  have M5 : Hid (ExMem w.heap.size W7) := Lib.hid ⟨s7, kept_block a1 c1, kept_block a2 c2, kept_block a3 c3, kept_block a4 c4, kept_block a5 c5, kept_block a6 c6, kept_block a7 c7⟩
  have B5 := Lib.hid c0
  have HW : Hid (((((((((w).alloc (.cells #[.int .i64 1, .int .i64 0, .string ⟨#[97]⟩, .int .u64 1, .int .u64 0] 60)).alloc (.cells #[.int .i64 7, .int .i64 0, .string ⟨#[97]⟩, .int .u64 0, .int .u64 0] 60)).alloc (.cells #[.slice (some ⟨w.heap.size, 0, none⟩) 1 1, .slice (some ⟨w.heap.size + 1, 0, none⟩) 1 1] 38)).alloc (.cells #[.int .i64 0, .int .i64 0, .bool false, .int .i64 0, .bool false, .int .u64 0, .string ⟨#[]⟩, .int .i64 0, .int .i64 0, .int .i64 0, .bool false] 47)).alloc (.cells #[.int .i64 0, .int .i64 0, .bool true, .int .i64 0, .bool false, .int .u64 0, .string ⟨#[]⟩, .int .i64 1, .int .i64 0, .int .i64 0, .bool false] 47)).alloc (.cells #[.int .i64 1, .int .i64 0, .bool false, .int .i64 0, .bool false, .int .u64 0, .string ⟨#[]⟩, .int .i64 0, .int .i64 0, .int .i64 0, .bool false] 47)).alloc (.cells #[.int .i64 1, .int .i64 0, .bool true, .int .i64 0, .bool false, .int .u64 0, .string ⟨#[]⟩, .int .i64 0, .int .i64 0, .int .i64 0, .bool false] 47)) = W7) := Lib.hid (by rw [hW7, hW6, hW5, hW4, hW3, hW2, hW1])
  clear hW1 hW2 hW3 hW4 hW5 hW6 hW7 a1 a2 a3 a4 a5 a6 a7 b1 b2 b3 b4 b5 b6 b7 c0 c1 c2 c3 c4 c5 c6 c7 s1 s2 s3 s4 s5 s6 s7
  have BD : Hid (Below W7.heap.size W7 W7.drew) := Lib.hid (Below.refl _ _).drew
  cases late with
  | true =>
    go_enter Tryz.func10, Tryz.ntmps10
    go_upto_region 5 with fail
    rw [HW.out]
    have sz : W7.heap.size = w.heap.size + 7 := M5.out.1
    go_region_held3 (fun W => W.cell? ⟨w.heap.size + 3, 0, none⟩ = some (.int .i64 0) ∧ W.cell? ⟨w.heap.size + 3, 1, none⟩ = some (.int .i64 0) ∧ W.cell? ⟨w.heap.size + 3, 2, none⟩ = some (.bool false) ∧ W.cell? ⟨w.heap.size + 3, 3, none⟩ = some (.int .i64 0) ∧ W.cell? ⟨w.heap.size + 3, 4, none⟩ = some (.bool false) ∧ W.cell? ⟨w.heap.size + 3, 5, none⟩ = some (.int .u64 0) ∧ W.cell? ⟨w.heap.size + 3, 6, none⟩ = some (.string ⟨#[]⟩) ∧ W.cell? ⟨w.heap.size + 3, 7, none⟩ = some (.int .i64 0) ∧ W.cell? ⟨w.heap.size + 3, 8, none⟩ = some (.int .i64 0) ∧ W.cell? ⟨w.heap.size + 3, 9, none⟩ = some (.int .i64 0) ∧ W.cell? ⟨w.heap.size + 3, 10, none⟩ = some (.bool false) ∧ W.cell? ⟨w.heap.size + 4, 0, none⟩ = some (.int .i64 0) ∧ W.cell? ⟨w.heap.size + 4, 1, none⟩ = some (.int .i64 0) ∧ W.cell? ⟨w.heap.size + 4, 2, none⟩ = some (.bool true) ∧ W.cell? ⟨w.heap.size + 4, 3, none⟩ = some (.int .i64 0) ∧ W.cell? ⟨w.heap.size + 4, 4, none⟩ = some (.bool false) ∧ W.cell? ⟨w.heap.size + 4, 5, none⟩ = some (.int .u64 0) ∧ W.cell? ⟨w.heap.size + 4, 6, none⟩ = some (.string ⟨#[]⟩) ∧ W.cell? ⟨w.heap.size + 4, 7, none⟩ = some (.int .i64 1) ∧ W.cell? ⟨w.heap.size + 4, 8, none⟩ = some (.int .i64 0) ∧ W.cell? ⟨w.heap.size + 4, 9, none⟩ = some (.int .i64 0) ∧ W.cell? ⟨w.heap.size + 4, 10, none⟩ = some (.bool false) ∧ W.cell? ⟨w.heap.size + 5, 0, none⟩ = some (.int .i64 1) ∧ W.cell? ⟨w.heap.size + 5, 1, none⟩ = some (.int .i64 0) ∧ W.cell? ⟨w.heap.size + 5, 2, none⟩ = some (.bool false) ∧ W.cell? ⟨w.heap.size + 5, 3, none⟩ = some (.int .i64 0) ∧ W.cell? ⟨w.heap.size + 5, 4, none⟩ = some (.bool false) ∧ W.cell? ⟨w.heap.size + 5, 5, none⟩ = some (.int .u64 0) ∧ W.cell? ⟨w.heap.size + 5, 6, none⟩ = some (.string ⟨#[]⟩) ∧ W.cell? ⟨w.heap.size + 5, 7, none⟩ = some (.int .i64 0) ∧ W.cell? ⟨w.heap.size + 5, 8, none⟩ = some (.int .i64 0) ∧ W.cell? ⟨w.heap.size + 5, 9, none⟩ = some (.int .i64 0) ∧ W.cell? ⟨w.heap.size + 5, 10, none⟩ = some (.bool false) ∧ W.cell? ⟨w.heap.size + 6, 0, none⟩ = some (.int .i64 1) ∧ W.cell? ⟨w.heap.size + 6, 1, none⟩ = some (.int .i64 0) ∧ W.cell? ⟨w.heap.size + 6, 2, none⟩ = some (.bool true) ∧ W.cell? ⟨w.heap.size + 6, 3, none⟩ = some (.int .i64 0) ∧ W.cell? ⟨w.heap.size + 6, 4, none⟩ = some (.bool false) ∧ W.cell? ⟨w.heap.size + 6, 5, none⟩ = some (.int .u64 0) ∧ W.cell? ⟨w.heap.size + 6, 6, none⟩ = some (.string ⟨#[]⟩) ∧ W.cell? ⟨w.heap.size + 6, 7, none⟩ = some (.int .i64 0) ∧ W.cell? ⟨w.heap.size + 6, 8, none⟩ = some (.int .i64 0) ∧ W.cell? ⟨w.heap.size + 6, 9, none⟩ = some (.int .i64 0) ∧ W.cell? ⟨w.heap.size + 6, 10, none⟩ = some (.bool false)) (first | exact exCellsB M5.out BD.out | exact exCellsB M5.out (balZ (Below.refl _ _) _) | exact exCellsB M5.out (balZ (Below.refl _ _) _).drew) (fail)
    go_wp2_with fail
    refine bodyPost_ret (v := .tuple #[.slice (some ⟨w.heap.size + 1 + 1, 0, none⟩) 2 2, .slice (some ⟨w.heap.size + 7, 0, none⟩) 4 4]) (by simp [results, Tryz.results10, go_sem]) rfl ?_
    have he := (heap_alloc W7 (.cells ((exL true).flatMap EvD.cells).toArray 47)).1
    rw [sz] at he
    first
      | exact ex_end rfl M5.out B5.out (balZ (Below.refl _ _) _) he
      | exact ex_end rfl M5.out B5.out (balZ (Below.refl _ _) _).drew he
  | false =>
    go_enter Tryz.func10, Tryz.ntmps10
    go_upto_region 6 with fail
    rw [HW.out]
    have sz : W7.heap.size = w.heap.size + 7 := M5.out.1
    go_region_held3 (fun W => W.cell? ⟨w.heap.size + 3, 0, none⟩ = some (.int .i64 0) ∧ W.cell? ⟨w.heap.size + 3, 1, none⟩ = some (.int .i64 0) ∧ W.cell? ⟨w.heap.size + 3, 2, none⟩ = some (.bool false) ∧ W.cell? ⟨w.heap.size + 3, 3, none⟩ = some (.int .i64 0) ∧ W.cell? ⟨w.heap.size + 3, 4, none⟩ = some (.bool false) ∧ W.cell? ⟨w.heap.size + 3, 5, none⟩ = some (.int .u64 0) ∧ W.cell? ⟨w.heap.size + 3, 6, none⟩ = some (.string ⟨#[]⟩) ∧ W.cell? ⟨w.heap.size + 3, 7, none⟩ = some (.int .i64 0) ∧ W.cell? ⟨w.heap.size + 3, 8, none⟩ = some (.int .i64 0) ∧ W.cell? ⟨w.heap.size + 3, 9, none⟩ = some (.int .i64 0) ∧ W.cell? ⟨w.heap.size + 3, 10, none⟩ = some (.bool false) ∧ W.cell? ⟨w.heap.size + 4, 0, none⟩ = some (.int .i64 0) ∧ W.cell? ⟨w.heap.size + 4, 1, none⟩ = some (.int .i64 0) ∧ W.cell? ⟨w.heap.size + 4, 2, none⟩ = some (.bool true) ∧ W.cell? ⟨w.heap.size + 4, 3, none⟩ = some (.int .i64 0) ∧ W.cell? ⟨w.heap.size + 4, 4, none⟩ = some (.bool false) ∧ W.cell? ⟨w.heap.size + 4, 5, none⟩ = some (.int .u64 0) ∧ W.cell? ⟨w.heap.size + 4, 6, none⟩ = some (.string ⟨#[]⟩) ∧ W.cell? ⟨w.heap.size + 4, 7, none⟩ = some (.int .i64 1) ∧ W.cell? ⟨w.heap.size + 4, 8, none⟩ = some (.int .i64 0) ∧ W.cell? ⟨w.heap.size + 4, 9, none⟩ = some (.int .i64 0) ∧ W.cell? ⟨w.heap.size + 4, 10, none⟩ = some (.bool false) ∧ W.cell? ⟨w.heap.size + 5, 0, none⟩ = some (.int .i64 1) ∧ W.cell? ⟨w.heap.size + 5, 1, none⟩ = some (.int .i64 0) ∧ W.cell? ⟨w.heap.size + 5, 2, none⟩ = some (.bool false) ∧ W.cell? ⟨w.heap.size + 5, 3, none⟩ = some (.int .i64 0) ∧ W.cell? ⟨w.heap.size + 5, 4, none⟩ = some (.bool false) ∧ W.cell? ⟨w.heap.size + 5, 5, none⟩ = some (.int .u64 0) ∧ W.cell? ⟨w.heap.size + 5, 6, none⟩ = some (.string ⟨#[]⟩) ∧ W.cell? ⟨w.heap.size + 5, 7, none⟩ = some (.int .i64 0) ∧ W.cell? ⟨w.heap.size + 5, 8, none⟩ = some (.int .i64 0) ∧ W.cell? ⟨w.heap.size + 5, 9, none⟩ = some (.int .i64 0) ∧ W.cell? ⟨w.heap.size + 5, 10, none⟩ = some (.bool false) ∧ W.cell? ⟨w.heap.size + 6, 0, none⟩ = some (.int .i64 1) ∧ W.cell? ⟨w.heap.size + 6, 1, none⟩ = some (.int .i64 0) ∧ W.cell? ⟨w.heap.size + 6, 2, none⟩ = some (.bool true) ∧ W.cell? ⟨w.heap.size + 6, 3, none⟩ = some (.int .i64 0) ∧ W.cell? ⟨w.heap.size + 6, 4, none⟩ = some (.bool false) ∧ W.cell? ⟨w.heap.size + 6, 5, none⟩ = some (.int .u64 0) ∧ W.cell? ⟨w.heap.size + 6, 6, none⟩ = some (.string ⟨#[]⟩) ∧ W.cell? ⟨w.heap.size + 6, 7, none⟩ = some (.int .i64 0) ∧ W.cell? ⟨w.heap.size + 6, 8, none⟩ = some (.int .i64 0) ∧ W.cell? ⟨w.heap.size + 6, 9, none⟩ = some (.int .i64 0) ∧ W.cell? ⟨w.heap.size + 6, 10, none⟩ = some (.bool false)) (first | exact exCellsB M5.out BD.out | exact exCellsB M5.out (balZ (Below.refl _ _) _) | exact exCellsB M5.out (balZ (Below.refl _ _) _).drew) (fail)
    go_wp2_with fail
    refine bodyPost_ret (v := .tuple #[.slice (some ⟨w.heap.size + 1 + 1, 0, none⟩) 2 2, .slice (some ⟨w.heap.size + 7, 0, none⟩) 4 4]) (by simp [results, Tryz.results10, go_sem]) rfl ?_
    have he := (heap_alloc W7 (.cells ((exL false).flatMap EvD.cells).toArray 47)).1
    rw [sz] at he
    first
      | exact ex_end rfl M5.out B5.out (balZ (Below.refl _ _) _) he
      | exact ex_end rfl M5.out B5.out (balZ (Below.refl _ _) _).drew he
end Go.Proofs.YtbmoehndnbbhcaaGreatDoor
