/- Generated scripts as scripts in memory; the two comparisons answer alike. -/
import Derived.Test.YtnoeiaicligmiaaDoorSWild
import Derived.Test.YtnoeiaicligmiaaDoorSSmall
namespace Go.Proofs.YtnoeiaicligmiaaDoor
set_option linter.unusedVariables false
set_option linter.unusedSimpArgs false
open Go Go.RowKit Go.MapKept
/-- a script comes back; nothing that was there has changed -/
def ScrPost (w : World) (e : Ending) (w' : World) : Prop :=
  ∃ (s : ScrD) (A : Option Addr) (c : Nat) (D : Option Addr) (d : Nat), e = .returned (scrV s.mask A s.threads.length c D s.picks.length d) ∧ ScrAt w' A D s ∧ ScrOk s ∧ Below w.heap.size w w'
theorem box_scr {w w' : World} {P : Nat} {m : Int} {ts : List (List OpD)} {ps : List Int} {vt vp : Value} {us : List Value} (h : BoxAt w.heap.size w w' P (genS m ts ps) vt vp us) (m0 : 0 ≤ m) (m1 : m ≤ 18446744073709551615) (hl : ts.length ≤ 10) (hok : WildOk 21 ts) (hp : ps.length ≤ 92) (hpb : ∀ p ∈ ps, -9223372036854775808 ≤ p ∧ p ≤ 9223372036854775807) :
    ScrPost w (.returned (.agg #[.int .u64 m, vt, vp])) w' := by
  obtain ⟨A, c, D, d, h1, h2, h3⟩ := h.scr ⟨⟨by simp only [genS]; omega, fun t ht => by have := (hok t ht).1; omega⟩, by simp only [genS]; omega⟩
  refine ⟨⟨m, ts, ps⟩, A, c, D, d, by rw [h1, h2]; rfl, h3, ⟨m0, m1, fun t ht o ho => ((hok t ht).2 o ho).1, hpb⟩, h.below⟩
theorem gen_scr (w : World) (A : Option Addr) (n c : Nat) (hi : IntsAt w A n) : Calls Tryd.prog 10 #[.slice A n c] w (ScrPost w) :=
  (gen_any w A n c hi).mono fun e w' ⟨P, m, ts, ps, vt, vp, us, he, hb, m0, m1, h1, h2, hok, hp, hpb⟩ => by
    subst he
    exact box_scr hb m0 m1 (by omega) (WildOk.mono (n := 3) hok (by omega)) (by omega) hpb
theorem wild_scr (w : World) (A : Option Addr) (n c : Nat) (hi : IntsAt w A n) (A2 : Option Addr) (n2 c2 : Nat) (hi2 : IntsAt w A2 n2) (o : OpD) (ho : OpFit o) : Calls Tryd.prog 14 #[.slice A n c, .slice A2 n2 c2, .agg #[.int .i64 o.kind, .int .i64 o.handle, .string o.key, .int .u64 o.value, .int .u64 o.expect]] w (ScrPost w) :=
  (wild_any w A n c hi A2 n2 c2 hi2 o ho).mono fun e w' ⟨P, m, ts, ps, vt, vp, us, he, hb, m0, m1, h1, h2, hok, hp, hpb⟩ => by
    subst he
    exact box_scr hb m0 m1 (by omega) hok hp hpb
/-- a script whose keys fit and that is short -/
structure ScrFit (s : ScrD) : Prop where
  ok : ScrOk s
  keys : ∀ t ∈ s.threads, ∀ o ∈ t, o.key.size ≤ 140737488351232
  n0 : s.threads.length ≤ 1000
  n1 : ∀ t ∈ s.threads, t.length ≤ 1000
def FitPost (w : World) (e : Ending) (w' : World) : Prop :=
  ∃ (s : ScrD) (A : Option Addr) (c : Nat) (D : Option Addr) (d : Nat), e = .returned (scrV s.mask A s.threads.length c D s.picks.length d) ∧ ScrAt w' A D s ∧ ScrFit s ∧ Below w.heap.size w w'
theorem box_fit {w w' : World} {P : Nat} {m : Int} {ts : List (List OpD)} {ps : List Int} {vt vp : Value} {us : List Value} (h : BoxAt w.heap.size w w' P (genS m ts ps) vt vp us) (m0 : 0 ≤ m) (m1 : m ≤ 18446744073709551615) (hl : ts.length ≤ 10) (hok : WildOk 21 ts) (hp : ps.length ≤ 92) (hpb : ∀ p ∈ ps, -9223372036854775808 ≤ p ∧ p ≤ 9223372036854775807) :
    FitPost w (.returned (.agg #[.int .u64 m, vt, vp])) w' := by
  obtain ⟨A, c, D, d, h1, h2, h3⟩ := h.scr ⟨⟨by simp only [genS]; omega, fun t ht => by have := (hok t ht).1; omega⟩, by simp only [genS]; omega⟩
  exact ⟨⟨m, ts, ps⟩, A, c, D, d, by rw [h1, h2]; rfl, h3, ⟨⟨m0, m1, fun t ht o ho => ((hok t ht).2 o ho).1, hpb⟩, fun t ht o ho => ((hok t ht).2 o ho).2, by simp only; omega, fun t ht => by have := (hok t ht).1; omega⟩, h.below⟩
theorem gen_fit (w : World) (A : Option Addr) (n c : Nat) (hi : IntsAt w A n) : Calls Tryd.prog 10 #[.slice A n c] w (FitPost w) :=
  (gen_any w A n c hi).mono fun e w' ⟨P, m, ts, ps, vt, vp, us, he, hb, m0, m1, h1, h2, hok, hp, hpb⟩ => by
    subst he
    exact box_fit hb m0 m1 (by omega) (WildOk.mono (n := 3) hok (by omega)) (by omega) hpb
theorem wild_fit (w : World) (A : Option Addr) (n c : Nat) (hi : IntsAt w A n) (A2 : Option Addr) (n2 c2 : Nat) (hi2 : IntsAt w A2 n2) (o : OpD) (ho : OpFit o) : Calls Tryd.prog 14 #[.slice A n c, .slice A2 n2 c2, .agg #[.int .i64 o.kind, .int .i64 o.handle, .string o.key, .int .u64 o.value, .int .u64 o.expect]] w (FitPost w) :=
  (wild_any w A n c hi A2 n2 c2 hi2 o ho).mono fun e w' ⟨P, m, ts, ps, vt, vp, us, he, hb, m0, m1, h1, h2, hok, hp, hpb⟩ => by
    subst he
    exact box_fit hb m0 m1 (by omega) hok hp hpb
/-- a contract in every world behind w -/
def Eqs (f : FuncId) (w : World) (x y : Value) (r : Bool) : Prop := ∀ W, Below w.heap.size w W → Calls Tryd.prog f #[x, y] W fun e w' => e = .returned (.bool r) ∧ Below w.heap.size w w'
theorem both_equal (w : World) {s s' : ScrD} {A D A' D' : Option Addr} (c d c' d' : Nat) (h : ScrAt w A D s) (h' : ScrAt w A' D' s') :
    ∃ r : Bool, (s = s' → r = true) ∧ Eqs 22 w (scrV s.mask A s.threads.length c D s.picks.length d) (scrV s'.mask A' s'.threads.length c' D' s'.picks.length d') r ∧ Eqs 22 w (scrV s'.mask A' s'.threads.length c' D' s'.picks.length d') (scrV s.mask A s.threads.length c D s.picks.length d) r ∧
      Eqs 18 w (scrV s.mask A s.threads.length c D s.picks.length d) (scrV s'.mask A' s'.threads.length c' D' s'.picks.length d') r := by
  have lift : ∀ {W w' : World} {e : Ending} {r : Bool}, Below w.heap.size w W → e = .returned (.bool r) ∧ Below W.heap.size W w' → e = .returned (.bool r) ∧ Below w.heap.size w w' := fun hb h => ⟨h.1, hb.trans (h.2.mono hb.size)⟩
  by_cases hs : s = s'
  · subst hs
    exact ⟨true, fun _ => rfl, fun W hb => (equal_same W A D A' D' c d c' d' s (h.below hb) (h'.below hb)).mono fun _ _ p => lift hb p, fun W hb => (equal_same W A' D' A D c' d' c d s (h'.below hb) (h.below hb)).mono fun _ _ p => lift hb p,
      fun W hb => (requal_same W A D A' D' c d c' d' s (h.below hb) (h'.below hb)).mono fun _ _ p => lift hb p⟩
  · exact ⟨false, fun e => absurd e hs, fun W hb => (equal_diff W A D A' D' c d c' d' s s' (h.below hb) (h'.below hb) hs).mono fun _ _ p => lift hb p, fun W hb => (equal_diff W A' D' A D c' d' c d s' s (h'.below hb) (h.below hb) (fun e => hs e.symm)).mono fun _ _ p => lift hb p,
      fun W hb => (requal_diff W A D A' D' c d c' d' s s' (h.below hb) (h'.below hb) hs).mono fun _ _ p => lift hb p⟩
theorem small_in {w : World} {s : ScrD} {A D : Option Addr} (c d : Nat) (h : ScrAt w A D s) : ∀ W, Below w.heap.size w W → Calls Tryd.prog 15 #[scrV s.mask A s.threads.length c D s.picks.length d] W fun e w' => e = .returned (.bool (smallS s)) ∧ Below w.heap.size w w' :=
  fun W hb => (small_any W A D c d s (h.below hb)).mono fun _ _ p => ⟨p.1, hb.trans (p.2.mono hb.size)⟩
theorem awake_in {w : World} (h : Env w) : ∀ W, Below w.heap.size w W → Calls Tryd.prog 12 #[] W fun e w' => e = .returned (.bool true) ∧ Below w.heap.size w w' :=
  fun W hb => (awake_any W (h.below hb)).mono fun _ _ p => ⟨p.1, hb.trans (p.2.mono hb.size)⟩
/-- the box of a script -/
def boxS3 (s : ScrD) (A : Option Addr) (c : Nat) (D : Option Addr) (d : Nat) : Obj := .cells #[.int .u64 s.mask, .slice A s.threads.length c, .slice D s.picks.length d] 32
theorem box_cells {w : World} {b : Nat} {s : ScrD} {A D : Option Addr} {c d : Nat} (h : w.heap[b]? = some (boxS3 s A c D d)) : ∀ W, Below w.heap.size w W → W.cell? ⟨b, 0, none⟩ = some (.int .u64 s.mask) ∧ W.cell? ⟨b, 1, none⟩ = some (.slice A s.threads.length c) ∧ W.cell? ⟨b, 2, none⟩ = some (.slice D s.picks.length d) := fun W hb => by
  have hlt : b < w.heap.size := (Array.getElem?_eq_some_iff.1 h).1
  have h' := (hb.block b hlt).trans h
  exact ⟨blk_cell h' 0, blk_cell h' 1, blk_cell h' 2⟩
end Go.Proofs.YtnoeiaicligmiaaDoor
