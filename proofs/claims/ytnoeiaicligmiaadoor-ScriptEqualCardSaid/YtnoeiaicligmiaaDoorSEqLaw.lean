/- The walk of ScriptEqual. -/
import Derived.Test.YtnoeiaicligmiaaDoorSRet
import Derived.Test.YtnoeiaicligmiaaDoorSOpen
import Derived.Deep.RegionHeld3
import Derived.Deep.Light
import Derived.Test.YtnoeiaicligmiaaDoorSClass
namespace Go.Proofs.YtnoeiaicligmiaaDoor
set_option linter.unusedVariables false
set_option linter.unusedSimpArgs false
open Go Go.RowKit Go.MapKept
/-- the three boxes of the arguments -/
def eqW (w : World) (oa ob orw : Obj) : World := ((w.alloc oa).alloc ob).alloc orw
theorem eqW_below (w : World) (oa ob orw : Obj) : Below w.heap.size w (eqW w oa ob orw) := (((Below.refl _ _).alloc (Nat.le_refl _) _).alloc (by simp) _).alloc (by simp; omega) _
theorem eqW_size (w : World) (oa ob orw : Obj) : (eqW w oa ob orw).heap.size = w.heap.size + 3 := by simp [eqW]
theorem eqW_0 (w : World) (oa ob orw : Obj) : (eqW w oa ob orw).heap[w.heap.size]? = some oa := (Below.heap_alloc _ _ _ (by simp; omega)).trans ((Below.heap_alloc _ _ _ (by simp)).trans (heap_alloc w _).1)
theorem eqW_1 (w : World) (oa ob orw : Obj) : (eqW w oa ob orw).heap[w.heap.size + 1]? = some ob := by
  have h := (heap_alloc (w.alloc oa) ob).1
  rw [show (w.alloc oa).heap.size = w.heap.size + 1 by simp] at h
  exact (Below.heap_alloc _ _ _ (by simp)).trans h
theorem eqW_2 (w : World) (oa ob orw : Obj) : (eqW w oa ob orw).heap[w.heap.size + 2]? = some orw := by
  have h := (heap_alloc ((w.alloc oa).alloc ob) orw).1
  rw [show ((w.alloc oa).alloc ob).heap.size = w.heap.size + 2 by simp] at h
  exact h
/-- behind the first statement: the two generated scripts lie in boxes -/
def EqMid (w0 : World) (v11 v12 : Value) (wx : World) : Prop :=
  ∃ (P Q : Nat) (sx sy : ScrD) (Ax Dx Ay Dy : Option Addr) (cx dx cy dy : Nat), v11 = .pointer (some ⟨P, 0, none⟩) ∧ v12 = .pointer (some ⟨Q, 0, none⟩) ∧ wx.heap[P]? = some (boxS3 sx Ax cx Dx dx) ∧ wx.heap[Q]? = some (boxS3 sy Ay cy Dy dy) ∧ ScrAt wx Ax Dx sx ∧ ScrAt wx Ay Dy sy ∧ Below w0.heap.size w0 wx
/-- a script that lies in the blocks from lo to hi -/
def ScrHeld (lo : Nat) (w : World) (A D : Option Addr) (s : ScrD) : Prop := ∀ W : World, w.heap.size ≤ W.heap.size → (∀ b, lo ≤ b → b < w.heap.size → W.heap[b]? = w.heap[b]?) → ScrAt W A D s
def ScrPost2 (w : World) (e : Ending) (w' : World) : Prop :=
  ∃ (s : ScrD) (A : Option Addr) (c : Nat) (D : Option Addr) (d : Nat), e = .returned (scrV s.mask A s.threads.length c D s.picks.length d) ∧ ScrHeld w.heap.size w' A D s ∧ Below w.heap.size w w'
theorem box_scr2 {w w' : World} {P : Nat} {m : Int} {ts : List (List OpD)} {ps : List Int} {vt vp : Value} {us : List Value} (h : BoxAt w.heap.size w w' P (genS m ts ps) vt vp us) (hl : ts.length ≤ 10) (hok : WildOk 21 ts) (hp : ps.length ≤ 92) :
    ScrPost2 w (.returned (.agg #[.int .u64 m, vt, vp])) w' := by
  have hsm : Small 1048576 (genS m ts ps) := ⟨⟨by simp only [genS]; omega, fun t ht => by have := (hok t ht).1; omega⟩, by simp only [genS]; omega⟩
  obtain ⟨A, c, D, d, h1, h2, h3⟩ := h.scr hsm
  refine ⟨⟨m, ts, ps⟩, A, c, D, d, by rw [h1, h2]; rfl, fun W hz hk => ?_, h.below⟩
  rw [h1, h2] at h
  exact (h.over hk hz).scr2 hsm
theorem gen_scr2 (w : World) (A : Option Addr) (n c : Nat) (hi : IntsAt w A n) : Calls Tryd.prog 10 #[.slice A n c] w (ScrPost2 w) :=
  (gen_any w A n c hi).mono fun e w' ⟨P, m, ts, ps, vt, vp, us, he, hb, m0, m1, h1, h2, hok, hp, hpb⟩ => by
    subst he
    exact box_scr2 hb (by omega) (WildOk.mono (n := 3) hok (by omega)) (by omega)
theorem wild_scr2 (w : World) (A : Option Addr) (n c : Nat) (hi : IntsAt w A n) (A2 : Option Addr) (n2 c2 : Nat) (hi2 : IntsAt w A2 n2) (o : OpD) (ho : OpFit o) : Calls Tryd.prog 14 #[.slice A n c, .slice A2 n2 c2, .agg #[.int .i64 o.kind, .int .i64 o.handle, .string o.key, .int .u64 o.value, .int .u64 o.expect]] w (ScrPost2 w) :=
  (wild_any w A n c hi A2 n2 c2 hi2 o ho).mono fun e w' ⟨P, m, ts, ps, vt, vp, us, he, hb, m0, m1, h1, h2, hok, hp, hpb⟩ => by
    subst he
    exact box_scr2 hb (by omega) hok hp
theorem sh0 {W w1 : World} (hb : Below W.drew.heap.size W.drew w1) : Below W.heap.size W w1 := ((Below.refl _ W).drew).trans hb
theorem sh1 {W w1 : World} {o : Obj} (hb : Below (W.alloc o).drew.heap.size (W.alloc o).drew w1) : Below W.heap.size W w1 ∧ w1.heap[W.heap.size]? = some o ∧ W.heap.size + 1 ≤ w1.heap.size :=
  have hz : (W.alloc o).drew.heap.size = W.heap.size + 1 := by show (W.alloc o).heap.size = _; simp
  ⟨(((Below.refl _ W).alloc (Nat.le_refl _) o).drew).trans (hb.mono (by omega)), (hb.block _ (by omega)).trans (heap_alloc W o).1, by have := hb.size; omega⟩
theorem sh2 {W w1 : World} {o o' : Obj} (hb : Below ((W.alloc o).alloc o').drew.heap.size ((W.alloc o).alloc o').drew w1) : Below W.heap.size W w1 ∧ w1.heap[W.heap.size]? = some o ∧ w1.heap[W.heap.size + 1]? = some o' ∧ W.heap.size + 2 ≤ w1.heap.size := by
  have hz : ((W.alloc o).alloc o').drew.heap.size = W.heap.size + 2 := by show ((W.alloc o).alloc o').heap.size = _; simp
  refine ⟨((((Below.refl _ W).alloc (Nat.le_refl _) o).alloc (by simp) o').drew).trans (hb.mono (by omega)), (hb.block _ (by omega)).trans ((Below.heap_alloc _ _ _ (by simp)).trans (heap_alloc W o).1), (hb.block _ (by omega)).trans ?_, by have := hb.size; omega⟩
  have := (heap_alloc (W.alloc o) o').1
  rwa [show (W.alloc o).heap.size = W.heap.size + 1 by simp] at this
theorem vh1 {W w1 : World} {o : Obj} (hb : Below (W.alloc o).heap.size (W.alloc o) w1) : Below W.heap.size W w1 ∧ w1.heap[W.heap.size]? = some o ∧ W.heap.size + 1 ≤ w1.heap.size :=
  have hz : (W.alloc o).heap.size = W.heap.size + 1 := by simp
  ⟨((Below.refl _ W).alloc (Nat.le_refl _) o).trans (hb.mono (by omega)), (hb.block _ (by omega)).trans (heap_alloc W o).1, by have := hb.size; omega⟩
theorem vh2 {W w1 : World} {o o' : Obj} (hb : Below ((W.alloc o).alloc o').heap.size ((W.alloc o).alloc o') w1) : Below W.heap.size W w1 ∧ w1.heap[W.heap.size]? = some o ∧ w1.heap[W.heap.size + 1]? = some o' ∧ W.heap.size + 2 ≤ w1.heap.size := by
  have hz : ((W.alloc o).alloc o').heap.size = W.heap.size + 2 := by simp
  refine ⟨(((Below.refl _ W).alloc (Nat.le_refl _) o).alloc (by simp) o').trans (hb.mono (by omega)), (hb.block _ (by omega)).trans ((Below.heap_alloc _ _ _ (by simp)).trans (heap_alloc W o).1), (hb.block _ (by omega)).trans ?_, by have := hb.size; omega⟩
  have := (heap_alloc (W.alloc o) o').1
  rwa [show (W.alloc o).heap.size = W.heap.size + 1 by simp] at this
theorem withThis {p q : Prop} (h : p) (k : p → q) : q := k h
theorem boxO_facts {w : World} {b : Nat} (h : w.heap[b]? = some boxO) : w.cell? ⟨b, 0, none⟩ = some (.int .u64 0) ∧ w.cell? ⟨b, 1, none⟩ = some (.slice none 0 0) ∧ w.cell? ⟨b, 2, none⟩ = some (.slice none 0 0) ∧ w.frozen? ⟨b, 0, none⟩ = false ∧ w.frozen? ⟨b, 1, none⟩ = false ∧ w.frozen? ⟨b, 2, none⟩ = false ∧ b < w.heap.size :=
  ⟨blk_cell h 0, blk_cell h 1, blk_cell h 2, blk_frozen h 0, blk_frozen h 1, blk_frozen h 2, (Array.getElem?_eq_some_iff.1 h).1⟩
theorem eq_leaf {W0 w1 w2 wx : World} {lo1 lo2 : Nat} {sx sy : ScrD} {Ax Dx Ay Dy : Option Addr} {cx dx cy dy : Nat} (X : ScrHeld lo1 w1 Ax Dx sx) (Y : ScrHeld lo2 w2 Ay Dy sy) (h12 : Below w1.heap.size w1 w2) (hz1 : lo1 ≤ w1.heap.size) (hz2 : w1.heap.size ≤ lo2) (hB : Below W0.heap.size W0 w2) (P Q : Nat) (hP : W0.heap.size ≤ P ∧ (P < lo1 ∨ w1.heap.size ≤ P) ∧ (P < lo2 ∨ w2.heap.size ≤ P)) (hQ : W0.heap.size ≤ Q ∧ (Q < lo1 ∨ w1.heap.size ≤ Q) ∧ (Q < lo2 ∨ w2.heap.size ≤ Q))
    (kP : wx.heap[P]? = some (boxS3 sx Ax cx Dx dx)) (kQ : wx.heap[Q]? = some (boxS3 sy Ay cy Dy dy)) (ko : ∀ b, b ≠ P → b ≠ Q → b < w2.heap.size → wx.heap[b]? = w2.heap[b]?) (hz : w2.heap.size ≤ wx.heap.size) (hos : wx.os = w2.os) (htp : wx.tape = w2.tape) (hout : wx.output = w2.output) :
    EqMid W0 (.pointer (some ⟨P, 0, none⟩)) (.pointer (some ⟨Q, 0, none⟩)) wx := by
  have s12 := h12.size
  refine ⟨P, Q, sx, sy, Ax, Dx, Ay, Dy, cx, dx, cy, dy, rfl, rfl, kP, kQ, X wx (by omega) (fun b h1 h2 => ?_), Y wx hz (fun b h1 h2 => ko b (by omega) (by omega) h2), ⟨hos.trans hB.os, htp.trans hB.tape, hout.trans hB.output, Nat.le_trans hB.size hz, fun k hk => ?_⟩⟩
  · exact (ko b (by omega) (by omega) (by omega)).trans (h12.block b h2)
  · have := hB.size
    exact (ko k (by omega) (by omega) (by omega)).trans (hB.block k hk)
theorem ScrHeld.eq {lo lo' : Nat} {w : World} {A D : Option Addr} {s : ScrD} (h : ScrHeld lo w A D s) (e : lo = lo') : ScrHeld lo' w A D s := e ▸ h
theorem dsz1 (W : World) (o : Obj) : (W.alloc o).drew.heap.size = W.heap.size + 1 := by show (W.alloc o).heap.size = _; simp
theorem dsz2 (W : World) (o o' : Obj) : ((W.alloc o).alloc o').drew.heap.size = W.heap.size + 2 := by show ((W.alloc o).alloc o').heap.size = _; simp
theorem asz1 (W : World) (o : Obj) : (W.alloc o).heap.size = W.heap.size + 1 := by simp
theorem asz2 (W : World) (o o' : Obj) : ((W.alloc o).alloc o').heap.size = W.heap.size + 2 := by simp
theorem ssz (w : World) (b : Nat) (x y z : Value) : (((w.setCell ⟨b, 0, none⟩ x).setCell ⟨b, 1, none⟩ y).setCell ⟨b, 2, none⟩ z).heap.size = w.heap.size := by simp [World.setCell]
theorem set3_at {w : World} {b : Nat} (h : w.heap[b]? = some boxO) (x y z : Value) : (((w.setCell ⟨b, 0, none⟩ x).setCell ⟨b, 1, none⟩ y).setCell ⟨b, 2, none⟩ z).heap[b]? = some (.cells #[x, y, z] 32 (0, 0)) :=
  heap_set (j := 2) (heap_set (j := 1) (heap_set (j := 0) h x) y) z
theorem new1 (w : World) (o o' : Obj) : ((w.alloc o).alloc o').heap[w.heap.size]? = some o := (Below.heap_alloc _ _ _ (by simp)).trans (heap_alloc w o).1
theorem new2 (w : World) (o o' : Obj) : ((w.alloc o).alloc o').heap[w.heap.size + 1]? = some o' := by
  have := (heap_alloc (w.alloc o) o').1
  rwa [asz1] at this
theorem leaf1 {W0 w1 w2 : World} {lo1 lo2 : Nat} {sx sy : ScrD} {Ax Dx Ay Dy : Option Addr} {cx dx cy dy : Nat} (X : ScrHeld lo1 w1 Ax Dx sx) (Y : ScrHeld lo2 w2 Ay Dy sy) (h12 : Below w1.heap.size w1 w2) (hB : Below W0.heap.size W0 w2) (hz1 : lo1 ≤ w1.heap.size) (hz2 : w1.heap.size ≤ lo2) : EqMid W0 (.pointer (some ⟨w2.heap.size, 0, none⟩)) (.pointer (some ⟨w2.heap.size + 1, 0, none⟩)) ((w2.alloc (.cells #[.int .u64 sx.mask, .slice Ax sx.threads.length cx, .slice Dx sx.picks.length dx] 32)).alloc (.cells #[.int .u64 sy.mask, .slice Ay sy.threads.length cy, .slice Dy sy.picks.length dy] 32)) := by
  have s2 := h12.size
  have s0 := hB.size
  exact eq_leaf X Y h12 hz1 hz2 hB w2.heap.size (w2.heap.size + 1) (by omega) (by omega) (new1 w2 _ _) (new2 w2 _ _) (fun b _ _ hb => (Below.heap_alloc _ _ _ (by simp; omega)).trans (Below.heap_alloc _ _ _ hb)) (by simp; omega) rfl rfl rfl
theorem leaf2 {W0 w1 w2 : World} {lo1 lo2 : Nat} {sx sy : ScrD} {Ax Dx Ay Dy : Option Addr} {cx dx cy dy : Nat} (X : ScrHeld lo1 w1 Ax Dx sx) (Y : ScrHeld lo2 w2 Ay Dy sy) (h12 : Below w1.heap.size w1 w2) (hB : Below W0.heap.size W0 w2) (hz1 : lo1 ≤ w1.heap.size) (hz2 : w1.heap.size ≤ lo2) : EqMid W0 (.pointer (some ⟨w2.heap.size + 1, 0, none⟩)) (.pointer (some ⟨w2.heap.size, 0, none⟩)) ((w2.alloc (.cells #[.int .u64 sy.mask, .slice Ay sy.threads.length cy, .slice Dy sy.picks.length dy] 32)).alloc (.cells #[.int .u64 sx.mask, .slice Ax sx.threads.length cx, .slice Dx sx.picks.length dx] 32)) := by
  have s2 := h12.size
  have s0 := hB.size
  exact eq_leaf X Y h12 hz1 hz2 hB (w2.heap.size + 1) w2.heap.size (by omega) (by omega) (new2 w2 _ _) (new1 w2 _ _) (fun b _ _ hb => (Below.heap_alloc _ _ _ (by simp; omega)).trans (Below.heap_alloc _ _ _ hb)) (by simp; omega) rfl rfl rfl
theorem leaf3 {W0 w1 w2 : World} {lo1 lo2 : Nat} {sx sy : ScrD} {Ax Dx Ay Dy : Option Addr} {cx dx cy dy : Nat} (X : ScrHeld lo1 w1 Ax Dx sx) (Y : ScrHeld lo2 w2 Ay Dy sy) (h12 : Below w1.heap.size w1 w2) (hB : Below W0.heap.size W0 w2) (hz1 : lo1 ≤ w1.heap.size) (hz2 : w1.heap.size ≤ lo2) {P : Nat} (hP : W0.heap.size ≤ P ∧ (P < lo1 ∨ w1.heap.size ≤ P) ∧ (P < lo2 ∨ w2.heap.size ≤ P)) (hO : w2.heap[P]? = some (.cells #[.int .u64 0, .slice none 0 0, .slice none 0 0] 32)) : EqMid W0 (.pointer (some ⟨P, 0, none⟩)) (.pointer (some ⟨w2.heap.size, 0, none⟩)) ((((w2.setCell ⟨P, 0, none⟩ (.int .u64 sx.mask)).setCell ⟨P, 1, none⟩ (.slice Ax sx.threads.length cx)).setCell ⟨P, 2, none⟩ (.slice Dx sx.picks.length dx)).alloc (.cells #[.int .u64 sy.mask, .slice Ay sy.threads.length cy, .slice Dy sy.picks.length dy] 32)) := by
  have s2 := h12.size
  have s0 := hB.size
  have hlt : P < w2.heap.size := (Array.getElem?_eq_some_iff.1 hO).1
  have kQ := (heap_alloc (((w2.setCell ⟨P, 0, none⟩ (.int .u64 sx.mask)).setCell ⟨P, 1, none⟩ (.slice Ax sx.threads.length cx)).setCell ⟨P, 2, none⟩ (.slice Dx sx.picks.length dx)) (.cells #[.int .u64 sy.mask, .slice Ay sy.threads.length cy, .slice Dy sy.picks.length dy] 32)).1
  rw [ssz] at kQ
  exact eq_leaf X Y h12 hz1 hz2 hB P w2.heap.size hP (by omega) ((Below.heap_alloc _ _ _ (by rw [ssz]; exact hlt)).trans (set3_at hO _ _ _)) kQ (fun b h1 _ hb => (Below.heap_alloc _ _ _ (by rw [ssz]; exact hb)).trans (set3 h1 _ _ _)) (by rw [asz1, ssz]; omega) rfl rfl rfl
theorem leaf4 {W0 w1 w2 : World} {lo1 lo2 : Nat} {sx sy : ScrD} {Ax Dx Ay Dy : Option Addr} {cx dx cy dy : Nat} (X : ScrHeld lo1 w1 Ax Dx sx) (Y : ScrHeld lo2 w2 Ay Dy sy) (h12 : Below w1.heap.size w1 w2) (hB : Below W0.heap.size W0 w2) (hz1 : lo1 ≤ w1.heap.size) (hz2 : w1.heap.size ≤ lo2) {Q : Nat} (hQ : W0.heap.size ≤ Q ∧ (Q < lo1 ∨ w1.heap.size ≤ Q) ∧ (Q < lo2 ∨ w2.heap.size ≤ Q)) (hO : w2.heap[Q]? = some (.cells #[.int .u64 0, .slice none 0 0, .slice none 0 0] 32)) : EqMid W0 (.pointer (some ⟨w2.heap.size, 0, none⟩)) (.pointer (some ⟨Q, 0, none⟩)) ((((w2.setCell ⟨Q, 0, none⟩ (.int .u64 sy.mask)).setCell ⟨Q, 1, none⟩ (.slice Ay sy.threads.length cy)).setCell ⟨Q, 2, none⟩ (.slice Dy sy.picks.length dy)).alloc (.cells #[.int .u64 sx.mask, .slice Ax sx.threads.length cx, .slice Dx sx.picks.length dx] 32)) := by
  have s2 := h12.size
  have s0 := hB.size
  have hlt : Q < w2.heap.size := (Array.getElem?_eq_some_iff.1 hO).1
  have kP := (heap_alloc (((w2.setCell ⟨Q, 0, none⟩ (.int .u64 sy.mask)).setCell ⟨Q, 1, none⟩ (.slice Ay sy.threads.length cy)).setCell ⟨Q, 2, none⟩ (.slice Dy sy.picks.length dy)) (.cells #[.int .u64 sx.mask, .slice Ax sx.threads.length cx, .slice Dx sx.picks.length dx] 32)).1
  rw [ssz] at kP
  exact eq_leaf X Y h12 hz1 hz2 hB w2.heap.size Q (by omega) hQ kP ((Below.heap_alloc _ _ _ (by rw [ssz]; exact hlt)).trans (set3_at hO _ _ _)) (fun b _ h1 hb => (Below.heap_alloc _ _ _ (by rw [ssz]; exact hb)).trans (set3 h1 _ _ _)) (by rw [asz1, ssz]; omega) rfl rfl rfl
theorem leaf5 {W0 w1 w2 : World} {lo1 lo2 : Nat} {sx sy : ScrD} {Ax Dx Ay Dy : Option Addr} {cx dx cy dy : Nat} (X : ScrHeld lo1 w1 Ax Dx sx) (Y : ScrHeld lo2 w2 Ay Dy sy) (h12 : Below w1.heap.size w1 w2) (hB : Below W0.heap.size W0 w2) (hz1 : lo1 ≤ w1.heap.size) (hz2 : w1.heap.size ≤ lo2) {P Q : Nat} (hP : W0.heap.size ≤ P ∧ (P < lo1 ∨ w1.heap.size ≤ P) ∧ (P < lo2 ∨ w2.heap.size ≤ P)) (hQ : W0.heap.size ≤ Q ∧ (Q < lo1 ∨ w1.heap.size ≤ Q) ∧ (Q < lo2 ∨ w2.heap.size ≤ Q)) (hne : P ≠ Q) (hO : w2.heap[P]? = some (.cells #[.int .u64 0, .slice none 0 0, .slice none 0 0] 32)) (hO' : w2.heap[Q]? = some (.cells #[.int .u64 0, .slice none 0 0, .slice none 0 0] 32)) : EqMid W0 (.pointer (some ⟨P, 0, none⟩)) (.pointer (some ⟨Q, 0, none⟩)) ((((((w2.setCell ⟨P, 0, none⟩ (.int .u64 sx.mask)).setCell ⟨P, 1, none⟩ (.slice Ax sx.threads.length cx)).setCell ⟨P, 2, none⟩ (.slice Dx sx.picks.length dx)).setCell ⟨Q, 0, none⟩ (.int .u64 sy.mask)).setCell ⟨Q, 1, none⟩ (.slice Ay sy.threads.length cy)).setCell ⟨Q, 2, none⟩ (.slice Dy sy.picks.length dy)) := by
  have a1 := set3_at hO (.int .u64 sx.mask) (.slice Ax sx.threads.length cx) (.slice Dx sx.picks.length dx)
  have a2 : ∀ k, k ≠ P → (((w2.setCell ⟨P, 0, none⟩ (.int .u64 sx.mask)).setCell ⟨P, 1, none⟩ (.slice Ax sx.threads.length cx)).setCell ⟨P, 2, none⟩ (.slice Dx sx.picks.length dx)).heap[k]? = w2.heap[k]? := fun k hk => set3 hk _ _ _
  have a3 : (((w2.setCell ⟨P, 0, none⟩ (.int .u64 sx.mask)).setCell ⟨P, 1, none⟩ (.slice Ax sx.threads.length cx)).setCell ⟨P, 2, none⟩ (.slice Dx sx.picks.length dx)).heap.size = w2.heap.size := ssz _ _ _ _ _
  have a4 : (((w2.setCell ⟨P, 0, none⟩ (.int .u64 sx.mask)).setCell ⟨P, 1, none⟩ (.slice Ax sx.threads.length cx)).setCell ⟨P, 2, none⟩ (.slice Dx sx.picks.length dx)).os = w2.os ∧ (((w2.setCell ⟨P, 0, none⟩ (.int .u64 sx.mask)).setCell ⟨P, 1, none⟩ (.slice Ax sx.threads.length cx)).setCell ⟨P, 2, none⟩ (.slice Dx sx.picks.length dx)).tape = w2.tape ∧ (((w2.setCell ⟨P, 0, none⟩ (.int .u64 sx.mask)).setCell ⟨P, 1, none⟩ (.slice Ax sx.threads.length cx)).setCell ⟨P, 2, none⟩ (.slice Dx sx.picks.length dx)).output = w2.output := ⟨rfl, rfl, rfl⟩
  generalize (((w2.setCell ⟨P, 0, none⟩ (.int .u64 sx.mask)).setCell ⟨P, 1, none⟩ (.slice Ax sx.threads.length cx)).setCell ⟨P, 2, none⟩ (.slice Dx sx.picks.length dx)) = w3 at *
  exact eq_leaf X Y h12 hz1 hz2 hB P Q hP hQ ((set3 hne _ _ _).trans a1) (set3_at ((a2 Q (Ne.symm hne)).trans hO') _ _ _) (fun b h1 h2 hb => (set3 h2 _ _ _).trans (a2 b h1)) (by rw [ssz, a3]; exact Nat.le_refl _) a4.1 a4.2.1 a4.2.2
set_option maxRecDepth 100000 in
set_option maxHeartbeats 4000000 in
theorem scriptEqual_walk (Aa : Option Addr) (ca : Nat) (Da : Option Addr) (da : Nat) (sa : ScrD) (Ab : Option Addr) (cb : Nat) (Db : Option Addr) (db : Nat) (sb : ScrD) (A : Option Addr) (n c : Nat) (A2 : Option Addr) (n2 c2 : Nat) (o : OpD) (w : World)
    (ha : ScrAt w Aa Da sa ∧ ScrOk sa ∧ KeysFit sa) (hb : ScrAt w Ab Db sb ∧ ScrOk sb ∧ KeysFit sb) (hi : IntsAt w A n) (hi2 : IntsAt w A2 n2) (ho : OpOk o ∧ o.key.size ≤ 140737488351232) (env : Env w) :
    Calls Tryd.prog 7 #[scrV sa.mask Aa sa.threads.length ca Da sa.picks.length da, scrV sb.mask Ab sb.threads.length cb Db sb.picks.length db, .slice A n c, .slice A2 n2 c2, opV o] w fun e w' => e = .returned (.bool true) ∧ Below w.heap.size w w' := by
  have HA := Lib.hid ha.1
  have HB := Lib.hid hb.1
  have HO := Lib.hid (show OpFit o from ho)
  have E := Lib.hid env
  have WB := Lib.hid (eqW_below w (boxS3 sa Aa ca Da da) (boxS3 sb Ab cb Db db) (opObj o))
  have R2 := eqW_2 w (boxS3 sa Aa ca Da da) (boxS3 sb Ab cb Db db) (opObj o)
  have RZ : w.heap.size + 2 < (eqW w (boxS3 sa Aa ca Da da) (boxS3 sb Ab cb Db db) (opObj o)).heap.size := (Array.getElem?_eq_some_iff.1 R2).1
  have I1 := Lib.hid (hi.below WB.out)
  have I2 := Lib.hid (hi2.below WB.out)
  have W2 := Lib.hid R2
  have WZ := Lib.hid RZ
  have A0 := Lib.hid (eqW_0 w (boxS3 sa Aa ca Da da) (boxS3 sb Ab cb Db db) (opObj o))
  have B0 := Lib.hid (eqW_1 w (boxS3 sa Aa ca Da da) (boxS3 sb Ab cb Db db) (opObj o))
  clear ha hb hi hi2 ho env R2 RZ
  simp only [scrV, opV]
  go_enter Tryd.func7, Tryd.ntmps7
  go_upto_region 1 with fail
  have hW0 : ((w.alloc (.cells #[.int .u64 sa.mask, .slice Aa sa.threads.length ca, .slice Da sa.picks.length da] 32)).alloc (.cells #[.int .u64 sb.mask, .slice Ab sb.threads.length cb, .slice Db sb.picks.length db] 32)).alloc (.cells #[.int .i64 o.kind, .int .i64 o.handle, .string o.key, .int .u64 o.value, .int .u64 o.expect] 39) = eqW w (boxS3 sa Aa ca Da da) (boxS3 sb Ab cb Db db) (opObj o) := rfl
  rw [hW0]
  clear hW0
  generalize eqW w (boxS3 sa Aa ca Da da) (boxS3 sb Ab cb Db db) (opObj o) = W0 at *
  have KEEP : Hid (∀ W, Below W0.heap.size W0 W → (W.cell? ⟨w.heap.size + 2, 0, none⟩ = some (.int .i64 o.kind) ∧ W.cell? ⟨w.heap.size + 2, 1, none⟩ = some (.int .i64 o.handle) ∧ W.cell? ⟨w.heap.size + 2, 2, none⟩ = some (.string o.key) ∧ W.cell? ⟨w.heap.size + 2, 3, none⟩ = some (.int .u64 o.value) ∧ W.cell? ⟨w.heap.size + 2, 4, none⟩ = some (.int .u64 o.expect))) := fun W hb => op_cells ((hb.block _ WZ.out).trans W2.out)
  have BD0 : Hid (Below W0.heap.size W0 W0.drew) := (Below.refl _ _).drew
  have BD1 : Hid (∀ o, Below W0.heap.size W0 (W0.alloc o).drew) := fun o => ((Below.refl _ _).alloc (Nat.le_refl _) _).drew
  have BD2 : Hid (∀ o o', Below W0.heap.size W0 ((W0.alloc o).alloc o').drew) := fun o o' => (((Below.refl _ _).alloc (Nat.le_refl _) _).alloc (by simp) _).drew
  go_cut [11, 12] from 13 to 18 (fun v11 v12 wx => EqMid W0 v11 v12 wx)
  case first =>
    go_region_held3 (fun W => W.cell? ⟨w.heap.size + 2, 0, none⟩ = some (.int .i64 o.kind) ∧ W.cell? ⟨w.heap.size + 2, 1, none⟩ = some (.int .i64 o.handle) ∧ W.cell? ⟨w.heap.size + 2, 2, none⟩ = some (.string o.key) ∧ W.cell? ⟨w.heap.size + 2, 3, none⟩ = some (.int .u64 o.value) ∧ W.cell? ⟨w.heap.size + 2, 4, none⟩ = some (.int .u64 o.expect)) ((refine KEEP.out _ ?_; (repeat' (first | (with_reducible exact B2.out) | (with_reducible exact B1.out) | (with_reducible exact Below.refl _ _) | (with_reducible apply Below.drew) | (with_reducible apply Below.alloc) | (with_reducible apply Below.setCell) | (simp; done) | (simp; omega) | omega)))) (first | ((have hx := X1); clear hx; go_at_call 14; (refine (wild_scr2 _ A n c ?hi A2 n2 c2 ?hi2 o HO.out).mono ?_); (case hi => (first | (with_reducible exact I1.out.below B1.out) | (with_reducible exact I1.out.below (BE1.out _)) | (with_reducible exact I1.out.below (BE2.out _ _)))); (case hi2 => (first | (with_reducible exact I2.out.below B1.out) | (with_reducible exact I2.out.below (BE1.out _)) | (with_reducible exact I2.out.below (BE2.out _ _)))); rintro e w2 ⟨sy, Ay, cy, Dy, dy, he, hy, hb2⟩; (simp only [scrV] at he); subst he; (first | ((with_reducible refine withThis (vh2 (W := w1) hb2) ?_); rintro ⟨k2, m1, m2, zz2⟩; (have Y2 := Lib.hid (hy.eq (asz2 w1 _ _))); (have MA := Lib.hid m1); (have MB := Lib.hid m2); (obtain ⟨qa0, qa1, qa2, qa3, qa4, qa5, qa6⟩ := boxO_facts m1); (obtain ⟨qb0, qb1, qb2, qb3, qb4, qb5, qb6⟩ := boxO_facts m2)) | ((with_reducible refine withThis (vh1 (W := w1) hb2) ?_); rintro ⟨k2, m1, zz2⟩; (have Y2 := Lib.hid (hy.eq (asz1 w1 _))); (have MA := Lib.hid m1); (obtain ⟨qa0, qa1, qa2, qa3, qa4, qa5, qa6⟩ := boxO_facts m1)) | ((have k2 : Below w1.heap.size w1 w2 := hb2); (have Y2 : Hid (ScrHeld w1.heap.size w2 Ay Dy sy) := hy))); (have B2 := Lib.hid (B1.out.trans (k2.mono B1.out.size))); (have K2 := Lib.hid k2); (have hz2 := k2.size); (try ((refine withThis ((k2.block _ (Array.getElem?_eq_some_iff.1 NA.out).1).trans NA.out) ?_); intro na2; (have NA2 := Lib.hid na2); (refine withThis (boxO_facts na2) ?_); clear na2; rintro ⟨ra0, ra1, ra2, ra3, ra4, ra5, ra6⟩)); (try ((refine withThis ((k2.block _ (Array.getElem?_eq_some_iff.1 NB.out).1).trans NB.out) ?_); intro nb2; (have NB2 := Lib.hid nb2); (refine withThis (boxO_facts nb2) ?_); clear nb2; rintro ⟨rb0, rb1, rb2, rb3, rb4, rb5, rb6⟩)); clear hy hb2 k2) | (go_at_call 10; (refine (gen_scr2 _ A n c ?hi).mono ?_); (case hi => (first | (with_reducible exact I1.out.below BD0.out) | (with_reducible exact I1.out.below (BD1.out _)) | (with_reducible exact I1.out.below (BD2.out _ _)))); rintro e w1 ⟨sx, Ax, cx, Dx, dx, he, hx1, hb1⟩; (simp only [scrV] at he); subst he; (first | ((with_reducible refine withThis (sh2 (W := W0) hb1) ?_); rintro ⟨k1, n1, n2, zz1⟩; (have X1 := Lib.hid (hx1.eq (dsz2 W0 _ _))); (have NA := Lib.hid n1); (have NB := Lib.hid n2); clear n1 n2) | ((with_reducible refine withThis (sh1 (W := W0) hb1) ?_); rintro ⟨k1, n1, zz1⟩; (have X1 := Lib.hid (hx1.eq (dsz1 W0 _))); (have NA := Lib.hid n1); clear n1) | ((have k1 := sh0 (W := W0) hb1); (have X1 : Hid (ScrHeld W0.heap.size w1 Ax Dx sx) := hx1))); (have B1 := Lib.hid k1); (have BE1 := Lib.hid (fun o => B1.out.alloc B1.out.size o)); (have BE2 := Lib.hid (fun o o' => (B1.out.alloc B1.out.size o).alloc (Nat.le_trans B1.out.size (by simp)) o')); (have hz1 := k1.size); clear hx1 hb1 k1))
    all_goals
      go_wp2_with fail
      go_meet
    any_goals (with_reducible exact leaf1 X1.out Y2.out K2.out B2.out (by omega) (by omega))
    any_goals (with_reducible exact leaf2 X1.out Y2.out K2.out B2.out (by omega) (by omega))
    any_goals (with_reducible refine leaf3 X1.out Y2.out K2.out B2.out (by omega) (by omega) ?_ ?_)
    any_goals (with_reducible refine leaf4 X1.out Y2.out K2.out B2.out (by omega) (by omega) ?_ ?_)
    any_goals (with_reducible refine leaf5 X1.out Y2.out K2.out B2.out (by omega) (by omega) ?_ ?_ ?_ ?_ ?_)
    all_goals go_light
    all_goals first | omega | (with_reducible exact MA.out) | (with_reducible exact MB.out) | (with_reducible exact NA2.out) | (with_reducible exact NB2.out)
  case rest =>
    obtain ⟨P, Q, sx, sy, Ax, Dx, Ay, Dy, cx, dx, cy, dy, rfl, rfl, kP, kQ, hx, hy, hbx⟩ := hcut
    have hb0 : Below w.heap.size w wc := WB.out.trans (hbx.mono WB.out.size)
    have kA := (hbx.block w.heap.size (Nat.lt_of_lt_of_le (by omega) (Nat.le_of_lt WZ.out))).trans A0.out
    have kB := (hbx.block (w.heap.size + 1) (Nat.lt_of_lt_of_le (by omega) (Nat.le_of_lt WZ.out))).trans B0.out
    have hsa := HA.out.below hb0
    have hsb := HB.out.below hb0
    have E1 := E.out.below hb0
    obtain ⟨rab, _, eab, _, qab⟩ := both_equal wc ca da cb db hsa hsb
    obtain ⟨rax, _, eax, _, qax⟩ := both_equal wc ca da cx dx hsa hx
    obtain ⟨rxx, hxx, exx, _, _⟩ := both_equal wc cx dx cx dx hx hx
    obtain ⟨rxy, _, exy, eyx, qxy⟩ := both_equal wc cx dx cy dy hx hy
    obtain rfl := hxx rfl
    have SMA : Hid (∀ W, Below wc.heap.size wc W → Calls Tryd.prog 15 #[(.agg #[.int .u64 sa.mask, .slice Aa sa.threads.length ca, .slice Da sa.picks.length da])] W fun e w' => e = .returned (.bool (smallS sa)) ∧ Below wc.heap.size wc w') := small_in ca da hsa
    have SMB : Hid (∀ W, Below wc.heap.size wc W → Calls Tryd.prog 15 #[(.agg #[.int .u64 sb.mask, .slice Ab sb.threads.length cb, .slice Db sb.picks.length db])] W fun e w' => e = .returned (.bool (smallS sb)) ∧ Below wc.heap.size wc w') := small_in cb db hsb
    have AWK : Hid (∀ W, Below wc.heap.size wc W → Calls Tryd.prog 12 #[] W fun e w' => e = .returned (.bool true) ∧ Below wc.heap.size wc w') := awake_in E1
    have EAB : Hid (∀ W, Below wc.heap.size wc W → Calls Tryd.prog 22 #[(.agg #[.int .u64 sa.mask, .slice Aa sa.threads.length ca, .slice Da sa.picks.length da]), (.agg #[.int .u64 sb.mask, .slice Ab sb.threads.length cb, .slice Db sb.picks.length db])] W fun e w' => e = .returned (.bool rab) ∧ Below wc.heap.size wc w') := eab
    have QAB : Hid (∀ W, Below wc.heap.size wc W → Calls Tryd.prog 18 #[(.agg #[.int .u64 sa.mask, .slice Aa sa.threads.length ca, .slice Da sa.picks.length da]), (.agg #[.int .u64 sb.mask, .slice Ab sb.threads.length cb, .slice Db sb.picks.length db])] W fun e w' => e = .returned (.bool rab) ∧ Below wc.heap.size wc w') := qab
    have EAX : Hid (∀ W, Below wc.heap.size wc W → Calls Tryd.prog 22 #[(.agg #[.int .u64 sa.mask, .slice Aa sa.threads.length ca, .slice Da sa.picks.length da]), (.agg #[.int .u64 sx.mask, .slice Ax sx.threads.length cx, .slice Dx sx.picks.length dx])] W fun e w' => e = .returned (.bool rax) ∧ Below wc.heap.size wc w') := eax
    have QAX : Hid (∀ W, Below wc.heap.size wc W → Calls Tryd.prog 18 #[(.agg #[.int .u64 sa.mask, .slice Aa sa.threads.length ca, .slice Da sa.picks.length da]), (.agg #[.int .u64 sx.mask, .slice Ax sx.threads.length cx, .slice Dx sx.picks.length dx])] W fun e w' => e = .returned (.bool rax) ∧ Below wc.heap.size wc w') := qax
    have EXX : Hid (∀ W, Below wc.heap.size wc W → Calls Tryd.prog 22 #[(.agg #[.int .u64 sx.mask, .slice Ax sx.threads.length cx, .slice Dx sx.picks.length dx]), (.agg #[.int .u64 sx.mask, .slice Ax sx.threads.length cx, .slice Dx sx.picks.length dx])] W fun e w' => e = .returned (.bool true) ∧ Below wc.heap.size wc w') := exx
    have EXY : Hid (∀ W, Below wc.heap.size wc W → Calls Tryd.prog 22 #[(.agg #[.int .u64 sx.mask, .slice Ax sx.threads.length cx, .slice Dx sx.picks.length dx]), (.agg #[.int .u64 sy.mask, .slice Ay sy.threads.length cy, .slice Dy sy.picks.length dy])] W fun e w' => e = .returned (.bool rxy) ∧ Below wc.heap.size wc w') := exy
    have EYX : Hid (∀ W, Below wc.heap.size wc W → Calls Tryd.prog 22 #[(.agg #[.int .u64 sy.mask, .slice Ay sy.threads.length cy, .slice Dy sy.picks.length dy]), (.agg #[.int .u64 sx.mask, .slice Ax sx.threads.length cx, .slice Dx sx.picks.length dx])] W fun e w' => e = .returned (.bool rxy) ∧ Below wc.heap.size wc w') := eyx
    have QXY : Hid (∀ W, Below wc.heap.size wc W → Calls Tryd.prog 18 #[(.agg #[.int .u64 sx.mask, .slice Ax sx.threads.length cx, .slice Dx sx.picks.length dx]), (.agg #[.int .u64 sy.mask, .slice Ay sy.threads.length cy, .slice Dy sy.picks.length dy])] W fun e w' => e = .returned (.bool rxy) ∧ Below wc.heap.size wc w') := qxy
    have KEEP2 : Hid (∀ W, Below wc.heap.size wc W → (W.cell? ⟨w.heap.size, 0, none⟩ = some (.int .u64 sa.mask) ∧ W.cell? ⟨w.heap.size, 1, none⟩ = some (.slice Aa sa.threads.length ca) ∧ W.cell? ⟨w.heap.size, 2, none⟩ = some (.slice Da sa.picks.length da) ∧ W.cell? ⟨w.heap.size + 1, 0, none⟩ = some (.int .u64 sb.mask) ∧ W.cell? ⟨w.heap.size + 1, 1, none⟩ = some (.slice Ab sb.threads.length cb) ∧ W.cell? ⟨w.heap.size + 1, 2, none⟩ = some (.slice Db sb.picks.length db) ∧ W.cell? ⟨P, 0, none⟩ = some (.int .u64 sx.mask) ∧ W.cell? ⟨P, 1, none⟩ = some (.slice Ax sx.threads.length cx) ∧ W.cell? ⟨P, 2, none⟩ = some (.slice Dx sx.picks.length dx))) := fun W hb => by
      obtain ⟨a0, a1, a2⟩ := box_cells kA W hb
      obtain ⟨b0, b1, b2⟩ := box_cells kB W hb
      obtain ⟨x0, x1, x2⟩ := box_cells kP W hb
      exact ⟨a0, a1, a2, b0, b1, b2, x0, x1, x2⟩
    have KEEP4 : Hid (∀ W, Below wc.heap.size wc W → (W.cell? ⟨P, 0, none⟩ = some (.int .u64 sx.mask) ∧ W.cell? ⟨P, 1, none⟩ = some (.slice Ax sx.threads.length cx) ∧ W.cell? ⟨P, 2, none⟩ = some (.slice Dx sx.picks.length dx) ∧ W.cell? ⟨Q, 0, none⟩ = some (.int .u64 sy.mask) ∧ W.cell? ⟨Q, 1, none⟩ = some (.slice Ay sy.threads.length cy) ∧ W.cell? ⟨Q, 2, none⟩ = some (.slice Dy sy.picks.length dy))) := fun W hb => by
      obtain ⟨x0, x1, x2⟩ := box_cells kP W hb
      obtain ⟨y0, y1, y2⟩ := box_cells kQ W hb
      exact ⟨x0, x1, x2, y0, y1, y2⟩
    have FIN : Hid (Below w.heap.size w wc) := hb0
    have BD : Hid (Below wc.heap.size wc wc.drew) := (Below.refl _ _).drew
    generalize smallS sa = ba at *
    generalize smallS sb = bb at *
    clear KEEP hx hy hbx kP kQ kA kB hsa hsb E1 eab qab eax qax exx exy eyx qxy hb0 hxx BD0 BD1 BD2 W2 WZ A0 B0 I1 I2 HO WB HA HB E
    obtain ⟨xa0, xa1, xa2, xb0, xb1, xb2, xx0, xx1, xx2⟩ := KEEP2.out wc (Below.refl _ _)
    clear xa0 xa1 xa2 xb0 xb1 xb2 xx0 xx1 xx2
    rcases (by cases ba <;> cases bb <;> simp : ba = false ∨ (ba = true ∧ bb = false) ∨ (ba = true ∧ bb = true)) with rfl | ⟨rfl, rfl⟩ | ⟨rfl, rfl⟩
    rotate_left 2
    cases rab <;> cases rax
    all_goals
      go_upto_region 2 with fail
      refine wp_region_class (C := fun W => Below wc.heap.size wc W) (by kernel_rfl) (by kernel_rfl) BD.out ?_
      repeat (first | go_big_quiet_step (fail) | (refine' wpQuiet_take (by kernel_rfl) (fun W hW => ?_) ?_; rotate_left; ((have hq := KEEP2.out W hW); obtain ⟨y0, y1, y2, y3, y4, y5, y6, y7, y8⟩ := hq; go_simp; (first | rfl | (with_reducible exact SMA.out _ hW) | (with_reducible exact SMB.out _ hW) | (with_reducible exact EAB.out _ hW) | (with_reducible exact QAB.out _ hW) | (with_reducible exact EAX.out _ hW) | (with_reducible exact QAX.out _ hW))); (simp only [Act.put, List.setIfInBounds_toArray, List.set_cons_zero, List.set_cons_succ])))
      refine wpQuiet_nil ?_
      intro wl hbl
    all_goals
      clear BD SMA SMB EAB QAB EAX QAX KEEP2
      go_upto_region 4 with fail
      cases rxy
    all_goals
      have BD : Hid (Below wc.heap.size wc wl.drew) := hbl.drew
      clear hbl
      refine wp_region_class (C := fun W => Below wc.heap.size wc W) (by kernel_rfl) (by kernel_rfl) BD.out ?_
      repeat (first | go_big_quiet_step (fail) | (refine' wpQuiet_take (by kernel_rfl) (fun W hW => ?_) ?_; rotate_left; ((have hq := KEEP4.out W hW); obtain ⟨y0, y1, y2, y3, y4, y5⟩ := hq; go_simp; (first | rfl | (with_reducible exact AWK.out _ hW) | (with_reducible exact EXX.out _ hW) | (with_reducible exact EXY.out _ hW) | (with_reducible exact EYX.out _ hW) | (with_reducible exact QXY.out _ hW))); (simp only [Act.put, List.setIfInBounds_toArray, List.set_cons_zero, List.set_cons_succ])))
      refine wpQuiet_nil ?_
      intro wm hbm
      go_wp2_with fail
      go_ret
      exact ⟨rfl, FIN.out.trans (hbm.mono FIN.out.size)⟩
end Go.Proofs.YtnoeiaicligmiaaDoor
