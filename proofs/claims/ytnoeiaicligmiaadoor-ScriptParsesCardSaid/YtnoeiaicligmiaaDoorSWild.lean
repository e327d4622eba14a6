/- The walk of the law's 'wild': a generated script, with arbitrary numbers in place of some. -/
import Derived.Test.YtnoeiaicligmiaaDoorSGen
import Derived.Test.YtnoeiaicligmiaaDoorSWildA
namespace Go.Proofs.YtnoeiaicligmiaaDoor
set_option linter.unusedVariables false
set_option linter.unusedSimpArgs false
open Go Go.RowKit Go.MapKept
theorem IntsAt.below {w w' : World} {A : Option Addr} {n : Nat} (h : IntsAt w A n) (hb : Below w.heap.size w w') : IntsAt w' A n :=
  ⟨h.1, fun h0 => by
    obtain ⟨b, off, hA, hlt, hc⟩ := h.2 h0
    exact ⟨b, off, hA, Nat.lt_of_lt_of_le hlt hb.size, fun k hk => by
      obtain ⟨z, hz, hz2⟩ := hc k hk
      exact ⟨z, (hb.cell (p := ⟨b, off + k, none⟩) hlt).trans hz, hz2⟩⟩⟩
def WildOk (n : Nat) (ts : List (List OpD)) : Prop := ∀ t ∈ ts, t.length ≤ n ∧ ∀ o ∈ t, OpFit o
structure WildAt (B : Nat) (w0 w : World) (P bt : Nat) (m : Int) (ts : List (List OpD)) (ps : List Int) (vt vp : Value) (us : List Value) : Prop where
  box : BoxAt B w0 w P (genS m ts ps) vt vp us
  tape : TapeIs w B bt
  m0 : 0 ≤ m
  m1 : m ≤ 18446744073709551615
  pl : ps.length ≤ 92
  pb : ∀ p ∈ ps, -9223372036854775808 ≤ p ∧ p ≤ 9223372036854775807
def WildMid (B : Nat) (w0 : World) (P bt : Nat) (ts : List (List OpD)) (vt : Value) (us : List Value) (wx : World) : Prop := ∃ (m : Int) (ps : List Int) (vp : Value), WildAt B w0 wx P bt m ts ps vt vp us
def WildRel1 (B : Nat) (w0 : World) (P bt n : Nat) (m : Int) (ps : List Int) (v10 : Value) (wr : World) : Prop :=
  ∃ (i : Nat) (ts : List (List OpD)) (vt vp : Value) (us : List Value), v10 = .int .i64 i ∧ i ≤ 18 ∧ ts.length = n ∧ WildOk (21 - i) ts ∧ WildAt B w0 wr P bt m ts ps vt vp us
def WildRel2 (B : Nat) (w0 : World) (P bt : Nat) (m : Int) (ps : List Int) (v11 : Value) (wr : World) : Prop :=
  ∃ (i : Nat) (ts : List (List OpD)) (vt vp : Value) (us : List Value), v11 = .int .i64 i ∧ 1 ≤ ts.length ∧ ts.length + i ≤ 10 ∧ WildOk 21 ts ∧ WildAt B w0 wr P bt m ts ps vt vp us
theorem WildOk.mono {n n' : Nat} {ts : List (List OpD)} (h : WildOk n ts) (hn : n ≤ n') : WildOk n' ts := fun t ht => ⟨Nat.le_trans (h t ht).1 hn, (h t ht).2⟩
theorem WildOk.nil {n : Nat} {ts : List (List OpD)} (h : WildOk n ts) : WildOk n (ts ++ [[]]) := by
  intro t ht
  simp only [List.mem_append, List.mem_singleton] at ht
  rcases ht with ht | rfl
  · exact h t ht
  · exact ⟨by simp, by simp⟩
theorem WildOk.set {n k : Nat} {ts : List (List OpD)} {t : List OpD} {o : OpD} (h : WildOk n ts) (ht : ts[k]? = some t) (ho : OpFit o) : WildOk (n + 1) (ts.set k (t ++ [o])) := by
  intro x hx
  rcases List.mem_or_eq_of_mem_set hx with hx | rfl
  · exact ⟨by have := (h x hx).1; omega, (h x hx).2⟩
  · have h1 := h t (List.mem_of_getElem? ht)
    refine ⟨by simp; omega, fun y hy => ?_⟩
    simp only [List.mem_append, List.mem_singleton] at hy
    rcases hy with hy | rfl
    · exact h1.2 y hy
    · exact ho
theorem wild_op {B : Nat} {w0 W w6 : World} {P bt : Nat} {m : Int} {ts : List (List OpD)} {ps : List Int} {vp u u' : Value} {us : List Value} {g gc k : Nat} {t : List OpD} (h : WildAt B w0 W P bt m ts ps (.slice (some ⟨g, 0, none⟩) us.length gc) vp us) (hts : ts[k]? = some t) (hu : us[k]? = some u) (op : OpD)
    (hg : (W.alloc (.cells #[.int .i64 op.kind, .int .i64 op.handle, .string op.key, .int .u64 op.value, .int .u64 op.expect] 39)).drew.grownBy w6 u.ownBlock)
    (hown : w6.ownsRow B 39 5 u' (t.length + 1) (t.flatMap opC ++ [.int .i64 op.kind, .int .i64 op.handle, .string op.key, .int .u64 op.value, .int .u64 op.expect])) (hnew : ∀ b, u'.ownBlock = some b → u.ownBlock = some b ∨ (W.alloc (.cells #[.int .i64 op.kind, .int .i64 op.handle, .string op.key, .int .u64 op.value, .int .u64 op.expect] 39)).drew.heap.size ≤ b) :
    WildAt B w0 (w6.setCell ⟨g, k, none⟩ u') P bt m (ts.set k (t ++ [op])) ps (.slice (some ⟨g, 0, none⟩) us.length gc) vp (us.set k u') := by
  have ha : Below W.heap.size W (W.alloc (.cells #[.int .i64 op.kind, .int .i64 op.handle, .string op.key, .int .u64 op.value, .int .u64 op.expect] 39)).drew := ((Below.refl _ _).alloc (Nat.le_refl _) _).drew
  have hb := h.box.above ha
  have hrow := hb.ops k u t hu hts
  have ht1 := h.tape.keep (ha.block _ h.tape.lt) (fun k hk => ha.block k (Nat.lt_of_lt_of_le hk h.box.size))
  have ht6 := tape_row ht1 hrow (by decide) (Nat.le_refl _) hb.size hg
  obtain ⟨hBg, cur, hgc⟩ := row_kind hb.thr (g := g) rfl
  have hg6 : w6.heap[g]? = some (.cells cur 49 (0, 0)) := (hg.block g (row_lt hb.thr rfl) (fun e => row_ne hrow hgc (by decide) e.symm)).trans hgc
  exact ⟨hb.opAt hts hu hg op hown hnew, ht6.setCell hBg (tape_ne ht6 hg6 (by decide)) _, h.m0, h.m1, h.pl, h.pb⟩
theorem wild_thread {B : Nat} {w0 W w6 : World} {P bt : Nat} {m : Int} {ts : List (List OpD)} {ps : List Int} {vt vp v' : Value} {us : List Value} (h : WildAt B w0 W P bt m ts ps vt vp us) (o : Obj) (hg : (W.alloc o).grownBy w6 vt.ownBlock)
    (hown : w6.ownsRow B 49 1 v' (us.length + 1) (us ++ [.slice none 0 0])) : WildAt B w0 (w6.setCell ⟨P, 1, none⟩ v') P bt m (ts ++ [[]]) ps v' vp (us ++ [.slice none 0 0]) := by
  have ha : Below W.heap.size W (W.alloc o) := (Below.refl _ _).alloc (Nat.le_refl _) _
  have ht1 := h.tape.keep (ha.block _ h.tape.lt) (fun k hk => ha.block k (Nat.lt_of_lt_of_le hk h.box.size))
  have ht6 := tape_row ht1 (h.box.thr.alloc o) (by decide) (Nat.le_refl _) (Nat.le_trans h.box.size ha.size) hg
  have hP6 := (grown_block hg h.box.lt (row_ne h.box.thr h.box.par (by decide))).trans h.box.par
  exact ⟨h.box.thread o hg hown, ht6.setCell h.box.base (tape_ne ht6 hP6 (by decide)) _, h.m0, h.m1, h.pl, h.pb⟩
theorem WildAt.call {B : Nat} {w0 W w' : World} {P bt : Nat} {m : Int} {ts : List (List OpD)} {ps : List Int} {vt vp : Value} {us : List Value} (h : WildAt B w0 W P bt m ts ps vt vp us) (hB : B ≤ bt) (ho : Only (· = bt) W w') (ht : TapeIs w' B bt) : WildAt B w0 w' P bt m ts ps vt vp us :=
  ⟨h.box.tape h.tape hB ho, ht, h.m0, h.m1, h.pl, h.pb⟩
theorem wild_numbers {B : Nat} {w0 W w6 : World} {P bt : Nat} {m : Int} {ts : List (List OpD)} {ps : List Int} {vt vp v' : Value} {us : List Value} (h : WildAt B w0 W P bt m ts ps vt vp us) (hl : ps.length ≤ 90) (o : Obj) (z0 z1 z2 : Int) (h0 : -9223372036854775808 ≤ z0 ∧ z0 ≤ 9223372036854775807) (h1 : -9223372036854775808 ≤ z1 ∧ z1 ≤ 9223372036854775807) (hg : (W.alloc o).drew.grownBy w6 vp.ownBlock)
    (hown : w6.ownsRow B 3 1 v' (ps.length + 2) (ps.map (.int .i64) ++ [.int .i64 z0, .int .i64 z1])) (m2 : Int) (hm : 0 ≤ m2 ∧ m2 ≤ 18446744073709551615) :
    WildMid B w0 P bt ts vt us ((w6.setCell ⟨P, 2, none⟩ v').setCell ⟨P, 0, none⟩ (.int .u64 m2)) := by
  have ha : Below W.heap.size W (W.alloc o).drew := ((Below.refl _ _).alloc (Nat.le_refl _) _).drew
  have hb := h.box.above ha
  have ht1 := h.tape.keep (ha.block _ h.tape.lt) (fun k hk => ha.block k (Nat.lt_of_lt_of_le hk h.box.size))
  have ht6 := tape_row ht1 hb.pks (by decide) (Nat.le_refl _) hb.size hg
  have hP6 := (hg.block P hb.lt (fun e => row_ne hb.pks hb.par (by decide) e.symm)).trans hb.par
  have hne := tape_ne ht6 hP6 (by decide)
  have hp := hb.picks hg [z0, z1] hown
  have hP7 := hp.par
  refine ⟨m2, ps ++ [z0, z1], v', ?_, (ht6.setCell hb.base hne _).setCell hb.base hne _, hm.1, hm.2, by simp; omega, ?_⟩
  · refine hp.put (st' := genS m2 ts (ps ++ [z0, z1])) rfl rfl (heap_set (j := 0) hP7 _) (fun k hk => Below.heap_setCell _ _ _ _ hk) ((Below.refl _ _).setCell (p := ⟨P, 0, none⟩) hb.base _)
  · intro p hp
    simp only [List.mem_append, List.mem_cons, List.not_mem_nil, or_false] at hp
    rcases hp with hp | rfl | rfl
    · exact h.pb p hp
    · exact h0
    · exact h1
theorem two_pick (w : World) (a b : Int) (T : TypeId) : ∀ j u, ([.int .i64 a, .int .i64 b] : List Value)[j]? = some u → (w.alloc (.cells #[.int .i64 a, .int .i64 b] T)).drew.cell? ((⟨w.heap.size, 0, none⟩ : Addr).add j) = some u := by
  intro j u h
  rw [addr_at]
  show (w.alloc _).cell? _ = _
  rw [blk_cell (MapKept.heap_alloc w _).1]
  simpa using h
theorem two_okc (a b : Int) : ∀ u ∈ ([.int .i64 a, .int .i64 b] : List Value), u.oneCell' = true := by
  intro u hu
  simp only [List.mem_cons, List.not_mem_nil, or_false] at hu
  rcases hu with rfl | rfl <;> rfl
/-- the new tape -/
theorem tnew_at (w : World) (B : Nat) (A : Option Addr) (n c : Nat) (hB : B ≤ w.heap.size) (hi : n ≤ 9223372036854775807 ∧ (0 < n → ∃ b off, A = some ⟨b, off, none⟩ ∧ b < B ∧ ∀ k, k < n → ∃ z : Int, w.cell? ⟨b, off + k, none⟩ = some (.int .i64 z) ∧ -9223372036854775808 ≤ z ∧ z ≤ 9223372036854775807)) :
    Calls Tryd.prog 27 #[.slice A n c] w fun e w' => ∃ bt, e = .returned (.pointer (some ⟨bt, 0, none⟩)) ∧ B ≤ bt ∧ TapeIs w' B bt ∧ Below w.heap.size w w' :=
  (tnew_any w A n c).mono fun e w' ⟨he, hw⟩ => ⟨w.heap.size, he, hB, by rw [hw]; exact TapeIs.made hB hi.1 hi.2, by rw [hw]; exact (Below.refl _ _).alloc (Nat.le_refl _) _⟩
/-- the script is stored into the box of the result, the second new block -/
theorem BoxAt.done2 {w wr : World} {P : Nat} {st : PS} {vt vp : Value} {us : List Value} {o1 o2 : Obj} (h : BoxAt (w.heap.size + 2) ((w.alloc o1).alloc o2) wr P st vt vp us) (x y z : Value) : BoxAt w.heap.size w (((wr.setCell ⟨w.heap.size + 1, 0, none⟩ x).setCell ⟨w.heap.size + 1, 1, none⟩ y).setCell ⟨w.heap.size + 1, 2, none⟩ z) P st vt vp us := by
  have hk : ∀ k, k ≠ w.heap.size + 1 → (((wr.setCell ⟨w.heap.size + 1, 0, none⟩ x).setCell ⟨w.heap.size + 1, 1, none⟩ y).setCell ⟨w.heap.size + 1, 2, none⟩ z).heap[k]? = wr.heap[k]? := fun k hk => set3 (w := wr) hk x y z
  have hz : (((wr.setCell ⟨w.heap.size + 1, 0, none⟩ x).setCell ⟨w.heap.size + 1, 1, none⟩ y).setCell ⟨w.heap.size + 1, 2, none⟩ z).heap.size = wr.heap.size := by simp [World.setCell]
  refine (h.over (fun k hk1 _ => hk k (by omega)) (by omega)).rebase (by omega) ?_
  have hb := h.below
  have hs := h.size
  exact ⟨hb.os, hb.tape, hb.output, by omega, fun k hk1 => (hk k (by omega)).trans ((hb.block k (by omega)).trans ((Below.heap_alloc _ _ _ (by simp; omega)).trans (Below.heap_alloc _ _ _ hk1)))⟩
/-- the script that comes back -/
def WildPost (w : World) (e : Ending) (w' : World) : Prop :=
  ∃ (P : Nat) (m : Int) (ts : List (List OpD)) (ps : List Int) (vt vp : Value) (us : List Value), e = .returned (.agg #[.int .u64 m, vt, vp]) ∧ BoxAt w.heap.size w w' P (genS m ts ps) vt vp us ∧ 0 ≤ m ∧ m ≤ 18446744073709551615 ∧ 1 ≤ ts.length ∧ ts.length ≤ 10 ∧ WildOk 21 ts ∧ ps.length ≤ 92 ∧ ∀ p ∈ ps, -9223372036854775808 ≤ p ∧ p ≤ 9223372036854775807
def wildW (w : World) (o : OpD) : World := (w.alloc (.cells #[.int .i64 o.kind, .int .i64 o.handle, .string o.key, .int .u64 o.value, .int .u64 o.expect] 39)).alloc boxO
theorem wild_below (w : World) (o : OpD) : Below w.heap.size w (wildW w o) := ((Below.refl _ _).alloc (Nat.le_refl _) _).alloc (by simp) _
theorem wild_raw (w : World) (o : OpD) : (wildW w o).heap[w.heap.size]? = some (opObj o) := (Below.heap_alloc _ _ _ (by simp)).trans (heap_alloc w _).1
theorem wild_res (w : World) (o : OpD) : (wildW w o).heap[w.heap.size + 1]? = some boxO := by
  have := (heap_alloc (w.alloc (.cells #[.int .i64 o.kind, .int .i64 o.handle, .string o.key, .int .u64 o.value, .int .u64 o.expect] 39)) boxO).1
  rwa [show (w.alloc (.cells #[.int .i64 o.kind, .int .i64 o.handle, .string o.key, .int .u64 o.value, .int .u64 o.expect] 39)).heap.size = w.heap.size + 1 by simp] at this
theorem wild_size (w : World) (o : OpD) : (wildW w o).heap.size = w.heap.size + 2 := by simp [wildW]
theorem wild_nums {w W : World} {o : OpD} {A : Option Addr} {n : Nat} (h : IntsAt w A n) (hb : Below (w.heap.size + 2) (wildW w o) W) : n ≤ 9223372036854775807 ∧ (0 < n → ∃ b off, A = some ⟨b, off, none⟩ ∧ b < w.heap.size + 2 ∧ ∀ k, k < n → ∃ z : Int, W.cell? ⟨b, off + k, none⟩ = some (.int .i64 z) ∧ -9223372036854775808 ≤ z ∧ z ≤ 9223372036854775807) :=
  ⟨h.1, fun h0 => by
    obtain ⟨b, off, hA, hlt, hc⟩ := h.2 h0
    exact ⟨b, off, hA, by omega, fun k hk => by
      obtain ⟨z, hz, hz2⟩ := hc k hk
      exact ⟨z, ((hb.cell (p := ⟨b, off + k, none⟩) (by simp only; omega)).trans ((wild_below w o).cell (p := ⟨b, off + k, none⟩) hlt)).trans hz, hz2⟩⟩⟩
set_option maxRecDepth 100000 in
set_option maxHeartbeats 4000000 in
theorem wild_any (w : World) (A : Option Addr) (n c : Nat) (hi : IntsAt w A n) (A2 : Option Addr) (n2 c2 : Nat) (hi2 : IntsAt w A2 n2) (o : OpD) (ho : OpFit o) : Calls Tryd.prog 14 #[.slice A n c, .slice A2 n2 c2, .agg #[.int .i64 o.kind, .int .i64 o.handle, .string o.key, .int .u64 o.value, .int .u64 o.expect]] w (WildPost w) := by
  have I1 := Lib.hid (hi.below (wild_below w o))
  have I2 := Lib.hid hi2
  have HO := Lib.hid ho
  have hn2 := hi2.1
  clear ho hi hi2
  go_enter Tryd.func14, Tryd.ntmps14
  go_wp2_with fail
  refine (gen_any _ A n c I1.out).mono ?_
  rintro e w1 ⟨P0, m, ts, ps, vt, vp, us, rfl, hbx, m0, m1, ht1, ht2, hok, hpl, hpb⟩
  have hbx1 := hbx.move
  have BX : Hid (BoxAt (w.heap.size + 2) (wildW w o) (w1.alloc (.cells #[.int .u64 m, vt, vp] 32)) w1.heap.size (genS m ts ps) vt vp us) := by
    rw [wild_size w o] at hbx1
    exact hbx1
  have HOK := Lib.hid (show WildOk 3 ts from hok)
  have HPB := Lib.hid hpb
  clear hbx hbx1 hok hpb I1
  obtain ⟨av, cv, hvt⟩ := row_form BX.out.thr
  subst hvt
  obtain ⟨ap, cp, hvp⟩ := row_form BX.out.pks
  have hvp' : vp = .slice ap ps.length cp := hvp
  clear hvp
  subst hvp'
  have HUL := Lib.hid (show us.length = ts.length from BX.out.hus)
  go_wp2_with fail
  refine (tnew_at _ (w.heap.size + 2) A2 n2 c2 BX.out.size (wild_nums I2.out BX.out.below)).mono ?_
  rintro e w2 ⟨bt, rfl, hBt, hT2, hb2⟩
  have S2 := Lib.hid (WildAt.mk (BX.out.above hb2) hT2 m0 m1 (by omega) HPB.out)
  clear hT2 hb2 BX m0 m1 HPB
  generalize w1.heap.size = P at S2 ⊢
  go_upto_if 18 with fail
  go_cut [] (fun wx => WildMid (w.heap.size + 2) (wildW w o) P bt ts (.slice av us.length cv) us wx)
  case first =>
    by_cases h2 : 2 < n2
    · have h2' : (2 : Int) < (n2 : Int) := by omega
      have h1' : (1 : Int) < (n2 : Int) := by omega
      have h0' : 0 < n2 := by omega
      obtain ⟨b, off, rfl, hlt, hc⟩ := (wild_nums I2.out S2.out.box.below).2 (by omega)
      obtain ⟨z0, c0, hz0⟩ : ∃ z : Int, w2.cell? ⟨b, off, none⟩ = some (.int .i64 z) ∧ -9223372036854775808 ≤ z ∧ z ≤ 9223372036854775807 := hc 0 (by omega)
      obtain ⟨z1, c1, hz1⟩ := hc 1 (by omega)
      obtain ⟨z2, c2', hz2⟩ := hc 2 (by omega)
      have y2 : w2.cell? ⟨P, 2, none⟩ = some (.slice ap ps.length cp) := S2.out.box.cell 2
      have f2 : w2.frozen? ⟨P, 2, none⟩ = false := blk_frozen S2.out.box.par 2
      have hPz := S2.out.box.lt
      have hbP : b ≠ P := by have := S2.out.box.base; omega
      have y0 : w2.cell? ⟨P, 0, none⟩ = some (.int .u64 m) := S2.out.box.cell 0
      have f0 : w2.frozen? ⟨P, 0, none⟩ = false := blk_frozen S2.out.box.par 0
      have hbz : b < w2.heap.size := by have := S2.out.box.size; omega
      have hbr : (Value.slice ap ps.length cp).ownBlock ≠ some b := fun e => by have := (row_kind S2.out.box.pks e).1; omega
      clear hc
      go_wp2_with fail
      go_region_law ((refine step_int rfl _ _ rfl (w.heap.size + 2) _ _ _ _ (S2.out.box.pks.alloc _).drew rfl ⟨w2.heap.size, 0, none⟩ 2 rfl [.int .i64 z0, .int .i64 z1] rfl (two_pick w2 _ _ _) (two_okc _ _) (Nat.le_trans S2.out.box.size (by simp)) ?hn ?_); (case hn => (show ps.length + 2 ≤ 1048576; omega)); intro a6 c6 w6 ho6 hg6; (have O6 := Lib.hid ho6); (have G6 := Lib.hid hg6); (have e6 := grown_drew hg6 hPz (row_ne S2.out.box.pks S2.out.box.par (by decide))); (have v2 := (World.cell?_of_block (a := ⟨P, 2, none⟩) e6).trans y2); (have vf := (World.frozen?_of_block (a := ⟨P, 2, none⟩) e6).trans f2); (have v0 := (World.cell?_of_block (a := ⟨P, 0, none⟩) e6).trans y0); (have vf0 := (World.frozen?_of_block (a := ⟨P, 0, none⟩) e6).trans f0); (have n6 := (World.cell?_of_block (a := ⟨b, off + 2, none⟩) (grown_drew hg6 hbz hbr)).trans c2'); clear ho6 hg6 e6)
      all_goals
        have hm2 : 0 ≤ IntKind.u64.wrap z2 ∧ IntKind.u64.wrap z2 ≤ 18446744073709551615 := by rw [IntKind.wrap_u64]; omega
        have M6 := Lib.hid (wild_numbers S2.out hpl _ z0 z1 z2 hz0 hz1 G6.out O6.out (IntKind.u64.wrap z2) hm2)
        clear hm2
        go_wp2_with fail
        go_meet
        exact M6.out
    · have d2 : (decide ((2 : Int) < (n2 : Int))) = false := decide_eq_false (by omega)
      go_wp2_with fail
      go_meet
      exact ⟨m, ps, _, S2.out⟩
  case rest =>
    clear S2
    obtain ⟨m2, ps2, vp2, hS⟩ := hcut
    have y1 : wc.cell? ⟨P, 1, none⟩ = some (.slice av us.length cv) := hS.box.cell 1
    have S3 := Lib.hid hS
    have hu1 : (1 : Int) ≤ (us.length : Int) := by have := HUL.out; omega
    have hu2 : (us.length : Int) ≤ 3 := by have := HUL.out; omega
    clear hS
    go_wp2_with fail
    refine (tnext_any _ (w.heap.size + 2) bt _ S3.out.tape hu1 (by omega)).mono ?_
    rintro e w4 ⟨⟨k, k0, k1, rfl⟩, ht4, ho4⟩
    obtain ⟨k, rfl⟩ := Int.eq_ofNat_of_zero_le k0
    have S4 := Lib.hid (S3.out.call hBt ho4 ht4)
    clear ht4 ho4 y1 S3
    go_wp2_with fail
    refine (tnext_any _ (w.heap.size + 2) bt 19 S4.out.tape (by omega) (by omega)).mono ?_
    rintro e w5 ⟨⟨i, i0, i1, rfl⟩, ht5, ho5⟩
    obtain ⟨i, rfl⟩ := Int.eq_ofNat_of_zero_le i0
    have S5 := Lib.hid (S4.out.call hBt ho5 ht5)
    have hkl : k < ts.length := by have := HUL.out; omega
    have HKL := Lib.hid hkl
    clear ht5 ho5 S4 hu1 hu2 k0 k1 hkl
    go_wp2_with fail
    go_loopw [10] (fun v10 wr => WildRel1 (w.heap.size + 2) (wildW w o) P bt ts.length m2 ps2 v10 wr) (fun v10 _ => (intOf v10).toNat)
    case atStart => exact ⟨i, ts, _, _, us, rfl, by omega, rfl, HOK.out.mono (by omega), S5.out⟩
    case round =>
      obtain ⟨j, ts4, vt4, vp4, us4, rfl, hj, hl4, hok4, hS4⟩ := hrel
      clear S5
      have hz4 := hS4.box.lt
      have hraw := (hS4.box.below.block w.heap.size (by omega)).trans (wild_raw w o)
      obtain ⟨o0, o1, o2, o3, o4⟩ := op_cells hraw
      have hrlt : w.heap.size < wr.heap.size := (Array.getElem?_eq_some_iff.1 hraw).1
      have S4 := Lib.hid hS4
      have OK4 := Lib.hid hok4
      have L4 := Lib.hid hl4
      by_cases hj0 : 0 < j
      · have hu4 : us4.length = ts.length := by rw [hS4.box.hus]; exact hl4
        obtain ⟨g, gc, hv4⟩ := row_some hS4.box.thr (by have := HKL.out; omega)
        subst hv4
        obtain ⟨t, ht⟩ : ∃ t, ts4[k]? = some t := ⟨_, List.getElem?_eq_getElem (by have := HKL.out; omega)⟩
        obtain ⟨u, hu⟩ : ∃ u, us4[k]? = some u := ⟨_, List.getElem?_eq_getElem (by have := HKL.out; omega)⟩
        have hrow := S4.out.box.ops k u t hu ht
        obtain ⟨ua, uc, hue⟩ := row_form hrow
        subst hue
        have U4 := Lib.hid hrow
        have HU := Lib.hid hu
        have HT := Lib.hid ht
        have tl : t.length ≤ 21 := by have := (hok4 t (List.mem_of_getElem? ht)).1; omega
        have y1 : wr.cell? ⟨P, 1, none⟩ = some (.slice (some ⟨g, 0, none⟩) us4.length gc) := S4.out.box.cell 1
        have y2 : wr.cell? ⟨g, k, none⟩ = some (.slice ua t.length uc) := bthr_at S4.out.box hu
        have yf : wr.frozen? ⟨g, k, none⟩ = false := bthr_frozen S4.out.box _
        have hgz : g < wr.heap.size := row_lt S4.out.box.thr rfl
        have j0 : (0 : Int) ≤ (k : Int) := by omega
        have j1 : (k : Int) < (us4.length : Int) := by have := HKL.out; omega
        clear hS4 hok4 hl4 hraw hu4 hrow hu ht
        go_wp2_with fail
        go_region_law ((refine step_op rfl _ _ rfl (w.heap.size + 2) _ _ _ _ (U4.out.alloc _).drew rfl ⟨wr.heap.size, 0, none⟩ rfl [.int .i64 o.kind, .int .i64 o.handle, .string o.key, .int .u64 o.value, .int .u64 o.expect] rfl (five_new wr _ _ _ _ _ _) (five_one _ _ _ _ _) (Nat.le_trans S4.out.box.size (by simp)) ?hn ?_); (case hn => omega); intro a6 c6 w6 ho6 hg6 hn6; (have O6 := Lib.hid ho6); (have G6 := Lib.hid hg6); (have N6 := Lib.hid hn6); (have z1 := (World.cell?_of_block (a := ⟨P, 1, none⟩) (grown_drew G6.out hz4 (row_ne U4.out S4.out.box.par (by decide)))).trans y1); (have z2 := (World.cell?_of_block (a := ⟨g, k, none⟩) (grown_drew G6.out hgz (bthr_other S4.out.box U4.out))).trans y2); (have zf := (World.frozen?_of_block (a := ⟨g, k, none⟩) (grown_drew G6.out hgz (bthr_other S4.out.box U4.out))).trans yf); clear ho6 hg6 hn6)
        all_goals
          have NEW := Lib.hid (wild_op S4.out HT.out HU.out o G6.out O6.out N6.out)
          clear z1 z2 zf y1 y2 yf o0 o1 o2 o3 o4
          go_wp2_with fail
          refine ⟨⟨j - 1, _, _, _, _, by go_num, by omega, by rw [List.length_set]; exact L4.out, (OK4.out.set HT.out HO.out).mono (by omega), NEW.out⟩, by simp [intOf]; omega⟩
      · obtain rfl : j = 0 := by omega
        clear o0 o1 o2 o3 o4 hraw hrlt hok4 hl4 hS4
        go_wp2_with fail
        refine (tnext_any _ (w.heap.size + 2) bt 8 S4.out.tape (by omega) (by omega)).mono ?_
        rintro e w5 ⟨⟨i5, i50, i51, rfl⟩, ht5, ho5⟩
        obtain ⟨i5, rfl⟩ := Int.eq_ofNat_of_zero_le i50
        have S5 := Lib.hid (S4.out.call hBt ho5 ht5)
        clear ht5 ho5 S4
        go_wp2_with fail
        go_loopw [11] (fun v11 wr => WildRel2 (w.heap.size + 2) (wildW w o) P bt m2 ps2 v11 wr) (fun v11 _ => (intOf v11).toNat)
        case atStart => exact ⟨i5, ts4, _, _, us4, rfl, by rw [L4.out]; exact ht1, by rw [L4.out]; omega, OK4.out, S5.out⟩
        case round =>
          obtain ⟨q, ts6, vt6, vp6, us6, rfl, hl6, hq6, hok6, hS6⟩ := hrel
          clear S5 OK4 L4
          obtain ⟨av6, cv6, hv6⟩ := row_form hS6.box.thr
          subst hv6
          obtain ⟨ap6, cp6, hp6⟩ := row_form hS6.box.pks
          have hp6' : vp6 = .slice ap6 ps2.length cp6 := hp6
          clear hp6
          subst hp6'
          have S6 := Lib.hid hS6
          have OK6 := Lib.hid hok6
          have hz6 := hS6.box.lt
          have y1 : wr.cell? ⟨P, 1, none⟩ = some (.slice av6 us6.length cv6) := hS6.box.cell 1
          have f1 : wr.frozen? ⟨P, 1, none⟩ = false := blk_frozen hS6.box.par 1
          have U6 := Lib.hid (show us6.length = ts6.length from hS6.box.hus)
          by_cases hq0 : 0 < q
          · clear hS6 hok6
            go_wp2_with (at_builtin; refine stopAt ?_)
            unfold StopAt
            refine wpList_one_q 30 49 Tryd.underlying30 _ 24 ops_info rfl rfl _ _ rfl (w.heap.size + 2) _ _ _ _ rfl S6.out.box.thr _ rfl _ rfl rfl S6.out.box.size (by rw [U6.out]; unfold maxLen; omega) (by rw [U6.out]; omega) ?_
            intro a8 c8 w8 ho8 hg8
            have S8 := Lib.hid (wild_thread S6.out _ hg8 ho8)
            have z1 := (World.cell?_of_block (a := ⟨P, 1, none⟩) (grown_block hg8 hz6 (row_ne S6.out.box.thr S6.out.box.par (by decide)))).trans y1
            have zf := (World.frozen?_of_block (a := ⟨P, 1, none⟩) (grown_block hg8 hz6 (row_ne S6.out.box.thr S6.out.box.par (by decide)))).trans f1
            clear ho8 hg8
            go_wp2_with fail
            refine ⟨⟨q - 1, ts6 ++ [[]], _, _, _, by go_num, by simp, by simp; omega, OK6.out.nil, S8.out⟩, by simp [intOf]; omega⟩
          · obtain rfl : q = 0 := by omega
            have y0 : wr.cell? ⟨P, 0, none⟩ = some (.int .u64 m2) := hS6.box.cell 0
            have y2 : wr.cell? ⟨P, 2, none⟩ = some (.slice ap6 ps2.length cp6) := hS6.box.cell 2
            have hBo : wr.heap[w.heap.size + 1]? = some boxO := (hS6.box.below.block _ (by omega)).trans (wild_res w o)
            have x0 : wr.cell? ⟨w.heap.size + 1, 0, none⟩ = some (.int .u64 0) := blk_cell hBo 0
            have x1 : wr.cell? ⟨w.heap.size + 1, 1, none⟩ = some (.slice none 0 0) := blk_cell hBo 1
            have x2 : wr.cell? ⟨w.heap.size + 1, 2, none⟩ = some (.slice none 0 0) := blk_cell hBo 2
            have g0 : wr.frozen? ⟨w.heap.size + 1, 0, none⟩ = false := blk_frozen hBo 0
            have g1 : wr.frozen? ⟨w.heap.size + 1, 1, none⟩ = false := blk_frozen hBo 1
            have g2 : wr.frozen? ⟨w.heap.size + 1, 2, none⟩ = false := blk_frozen hBo 2
            clear hBo hS6 hok6
            go_wp2_with fail
            refine bodyPost_ret (v := .agg #[.int .u64 m2, .slice av6 us6.length cv6, .slice ap6 ps2.length cp6]) (by simp [results, Tryd.results14, go_sem, x0, x1, x2]) rfl ⟨P, m2, ts6, ps2, _, _, us6, rfl, S6.out.box.done2 _ _ _, S6.out.m0, S6.out.m1, hl6, by omega, OK6.out, S6.out.pl, S6.out.pb⟩
end Go.Proofs.YtnoeiaicligmiaaDoor
