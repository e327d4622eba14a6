/- Scripts in memory; the walks of Check and Operations, of the program and of the reference. -/
import Derived.Test.YtnoeiaicligmiaaDoorProg
import Derived.Test.YtnoeiaicligmiaaDoorSPlain
import Derived.WalkKit
import Derived.WalkLawsBesides
import Derived.WalkSpells
import Derived.Outline
import Derived.Lib.Hide
import Derived.Below
import Derived.Deep.QuietTactic
import Derived.BigQuiet
import Derived.Deep.LoopGhost
namespace Go.Proofs.YtnoeiaicligmiaaDoor
set_option linter.unusedVariables false
set_option linter.unusedSimpArgs false
open Go Go.RowKit
theorem ret_int {k : IntKind} {a b : Int} (h : a = b) : Ending.returned (.int k a) = .returned (.int k b) := by rw [h]
def OpsAt (w : World) (u : Option Addr) (t : List OpD) : Prop :=
  0 < t.length → ∃ b off, u = some ⟨b, off, none⟩ ∧ b < w.heap.size ∧ ∀ k o, t[k]? = some o →
    w.cell? ⟨b, off + k * 5, none⟩ = some (.int .i64 o.kind) ∧ w.cell? ⟨b, off + k * 5 + 1, none⟩ = some (.int .i64 o.handle) ∧ w.cell? ⟨b, off + k * 5 + 2, none⟩ = some (.string o.key) ∧
    w.cell? ⟨b, off + k * 5 + 3, none⟩ = some (.int .u64 o.value) ∧ w.cell? ⟨b, off + k * 5 + 4, none⟩ = some (.int .u64 o.expect)
def ThrAt (w : World) (A : Option Addr) (ts : List (List OpD)) : Prop :=
  0 < ts.length → ∃ b off, A = some ⟨b, off, none⟩ ∧ b < w.heap.size ∧ ∀ i t, ts[i]? = some t → ∃ u c, w.cell? ⟨b, off + i, none⟩ = some (.slice u t.length c) ∧ OpsAt w u t
def PicksAt (w : World) (A : Option Addr) (ps : List Int) : Prop :=
  0 < ps.length → ∃ b off, A = some ⟨b, off, none⟩ ∧ b < w.heap.size ∧ ∀ i p, ps[i]? = some p → w.cell? ⟨b, off + i, none⟩ = some (.int .i64 p)
structure ScrAt (w : World) (A : Option Addr) (D : Option Addr) (s : ScrD) : Prop where
  thr : ThrAt w A s.threads
  pks : PicksAt w D s.picks
  l0 : s.threads.length ≤ 4611686018427387904
  l1 : s.picks.length ≤ 4611686018427387904
  l2 : ∀ t ∈ s.threads, t.length ≤ 4611686018427387904
theorem OpsAt.keep {w w' : World} {u : Option Addr} {t : List OpD} (h : OpsAt w u t) (hz : w.heap.size ≤ w'.heap.size) (hb : ∀ b, b < w.heap.size → w'.heap[b]? = w.heap[b]?) : OpsAt w' u t := fun h0 => by
  obtain ⟨b, off, hu, hlt, hc⟩ := h h0
  refine ⟨b, off, hu, by omega, fun k o hk => ?_⟩
  obtain ⟨c0, c1, c2, c3, c4⟩ := hc k o hk
  have e := hb b hlt
  exact ⟨(World.cell?_of_block e).trans c0, (World.cell?_of_block e).trans c1, (World.cell?_of_block e).trans c2, (World.cell?_of_block e).trans c3, (World.cell?_of_block e).trans c4⟩
theorem ThrAt.keep {w w' : World} {A : Option Addr} {ts : List (List OpD)} (h : ThrAt w A ts) (hz : w.heap.size ≤ w'.heap.size) (hb : ∀ b, b < w.heap.size → w'.heap[b]? = w.heap[b]?) : ThrAt w' A ts := fun h0 => by
  obtain ⟨b, off, hu, hlt, hc⟩ := h h0
  refine ⟨b, off, hu, by omega, fun i t hi => ?_⟩
  obtain ⟨u, c, c0, c1⟩ := hc i t hi
  exact ⟨u, c, (World.cell?_of_block (hb b hlt)).trans c0, c1.keep hz hb⟩
theorem PicksAt.keep {w w' : World} {A : Option Addr} {ps : List Int} (h : PicksAt w A ps) (hz : w.heap.size ≤ w'.heap.size) (hb : ∀ b, b < w.heap.size → w'.heap[b]? = w.heap[b]?) : PicksAt w' A ps := fun h0 => by
  obtain ⟨b, off, hu, hlt, hc⟩ := h h0
  exact ⟨b, off, hu, by omega, fun i p hi => (World.cell?_of_block (hb b hlt)).trans (hc i p hi)⟩
theorem ScrAt.below {w w' : World} {A D : Option Addr} {s : ScrD} (h : ScrAt w A D s) (hb : Below w.heap.size w w') : ScrAt w' A D s :=
  ⟨h.thr.keep hb.size hb.block, h.pks.keep hb.size hb.block, h.l0, h.l1, h.l2⟩
def scrV (m : Int) (A : Option Addr) (n c : Nat) (D : Option Addr) (p d : Nat) : Value := .agg #[.int .u64 m, .slice A n c, .slice D p d]
/-- where the threads are read, behind the box of the argument -/
theorem thr_cell {w : World} {A : Option Addr} {ts : List (List OpD)} (h : ThrAt w A ts) (o : Obj) {i : Nat} {t : List OpD} (hi : ts[i]? = some t) :
    ∃ b off u c, A = some ⟨b, off, none⟩ ∧ (w.alloc o).cell? ⟨b, off + i, none⟩ = some (.slice u t.length c) ∧ OpsAt w u t := by
  have hl : 0 < ts.length := by
    have := (List.getElem?_eq_some_iff.1 hi).1
    omega
  obtain ⟨b, off, hA, hlt, hc⟩ := h hl
  obtain ⟨u, c, c0, c1⟩ := hc i t hi
  exact ⟨b, off, u, c, hA, (World.cell?_of_block (Below.heap_alloc w o b hlt)).trans c0, c1⟩
theorem any_long {ts : List (List OpD)} {k : Nat} {t : List OpD} (h : ts[k]? = some t) (hl : 16 < t.length) : ts.any (fun t => decide (16 < t.length)) = true :=
  List.any_eq_true.2 ⟨t, List.mem_of_getElem? h, by simpa using hl⟩
theorem none_long {ts : List (List OpD)} (h : ∀ (i : Nat) (t : List OpD), ts[i]? = some t → t.length ≤ 16) : ts.any (fun t => decide (16 < t.length)) = false := by
  rw [List.any_eq_false]
  intro t ht
  obtain ⟨i, hi⟩ := List.getElem?_of_mem ht
  have := h i t hi
  simp; omega
def ChkRel (ts : List (List OpD)) (i : Value) : Prop := ∃ k : Nat, k ≤ ts.length ∧ i = .int .i64 k ∧ ∀ j t, j < k → ts[j]? = some t → t.length ≤ 16
set_option maxHeartbeats 1000000 in
theorem check_any (w : World) (A D : Option Addr) (c d : Nat) (s : ScrD) (h : ScrAt w A D s) :
    Calls Tryd.prog 20 #[scrV s.mask A s.threads.length c D s.picks.length d] w fun e w' => e = .returned (.int .i64 (checkS s)) ∧ Below w.heap.size w w' := by
  obtain ⟨m, ts, ps⟩ := s
  have hl0 := h.l0
  have hl1 := h.l1
  have hl2 := Lib.hid h.l2
  have HT := Lib.hid h.thr
  simp only [scrV] at *
  by_cases h8 : 8 < ts.length
  · have X := Lib.hid (show checkS ⟨m, ts, ps⟩ = 3 from if_pos (Or.inl h8))
    clear h
    go_enter Tryd.func20, Tryd.ntmps20
    go_wp2
    go_ret
    exact ⟨ret_int X.out.symm, (Below.refl _ _).alloc (Nat.le_refl _) _⟩
  by_cases hp : 67108864 < ps.length
  · have X := Lib.hid (show checkS ⟨m, ts, ps⟩ = 3 from if_pos (Or.inr hp))
    clear h
    go_enter Tryd.func20, Tryd.ntmps20
    go_wp2
    go_ret
    exact ⟨ret_int X.out.symm, (Below.refl _ _).alloc (Nat.le_refl _) _⟩
  have X := Lib.hid (show checkS ⟨m, ts, ps⟩ = if ts.any (fun t => decide (16 < t.length)) then 3 else 0 from if_neg (by simp only; omega))
  have d8 : decide ((8 : Int) < (ts.length : Int)) = false := decide_eq_false (by omega)
  have dp : decide ((67108864 : Int) < (ps.length : Int)) = false := decide_eq_false (by omega)
  clear h
  go_enter Tryd.func20, Tryd.ntmps20
  go_wp2
  go_loop [18] (fun i => ChkRel ts i) (fun i => ts.length - (intOf i).toNat)
  case atStart => exact ⟨0, by omega, rfl, fun j t hj => by omega⟩
  case round =>
    obtain ⟨k, hk, rfl, hall⟩ := hrel
    have HA := Lib.hid hall
    clear hall d8 dp
    by_cases hlt : k < ts.length
    · obtain ⟨t, ht⟩ : ∃ t, ts[k]? = some t := ⟨_, List.getElem?_eq_getElem hlt⟩
      obtain ⟨b, off, u, cc, rfl, hcell, _⟩ := thr_cell HT.out (.cells #[.int .u64 m, .slice A ts.length c, .slice D ps.length d] 32) ht
      have ht2 := hl2.out t (List.mem_of_getElem? ht)
      have TT := Lib.hid ht
      clear ht
      by_cases h16 : 16 < t.length
      · go_wp2
        go_ret
        exact ⟨ret_int (by rw [X.out, any_long TT.out h16]; rfl), (Below.refl _ _).alloc (Nat.le_refl _) _⟩
      · go_wp2
        go_round
        case rel => exact ⟨k + 1, by omega, by go_num, fun j t' hj hj' => by
          by_cases e : j = k
          · subst e
            rw [TT.out] at hj'
            simp only [Option.some.injEq] at hj'
            subst hj'
            omega
          · exact HA.out j t' (by omega) hj'⟩
        case measure => simp [intOf]; omega
    · go_wp2
      go_ret
      refine ⟨ret_int ?_, (Below.refl _ _).alloc (Nat.le_refl _) _⟩
      rw [X.out, none_long (fun i t hi => HA.out i t (by have := (List.getElem?_eq_some_iff.1 hi).1; omega) hi)]
      rfl
end Go.Proofs.YtnoeiaicligmiaaDoor
