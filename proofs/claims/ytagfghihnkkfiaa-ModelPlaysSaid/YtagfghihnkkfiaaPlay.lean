/- The walk of the law ModelPlays. -/
import Derived.Test.YtagfghihnkkfiaaPlFiv
import Derived.Test.YtagfghihnkkfiaaFrame
namespace Go.Proofs.Ytagfghihnkkfiaa
set_option linter.unusedVariables false
set_option linter.unusedSimpArgs false
open Go Go.RowKit Go.MapKept
structure StepD where
  ch : Option Addr
  n : Nat
  c : Nat
  op : OpD
  thread : Int
  again : Bool
  copy : Bool
/-- a step in memory -/
structure StepAt (w : World) (b o : Nat) (s : StepD) : Prop where
  c0 : w.cell? ⟨b, o, none⟩ = some (.slice s.ch s.n s.c)
  c1 : w.cell? ⟨b, o + 1, none⟩ = some (.int .i64 s.op.kind)
  c2 : w.cell? ⟨b, o + 2, none⟩ = some (.int .i64 s.op.handle)
  c3 : w.cell? ⟨b, o + 3, none⟩ = some (.string s.op.key)
  c4 : w.cell? ⟨b, o + 4, none⟩ = some (.int .u64 s.op.value)
  c5 : w.cell? ⟨b, o + 5, none⟩ = some (.int .u64 s.op.expect)
  c6 : w.cell? ⟨b, o + 6, none⟩ = some (.int .i64 s.thread)
  c7 : w.cell? ⟨b, o + 7, none⟩ = some (.bool s.again)
  c8 : w.cell? ⟨b, o + 8, none⟩ = some (.bool s.copy)
  ints : IntsAt w s.ch s.n
  key : s.op.key.size ≤ maxLen
  thr : -9223372036854775808 ≤ s.thread ∧ s.thread ≤ 9223372036854775807
def StepsAt (w : World) (A : Option Addr) (n : Nat) : Prop :=
  n ≤ 9223372036854775807 ∧ (0 < n → ∃ b off, A = some ⟨b, off, none⟩ ∧ b < w.heap.size ∧ ∀ k, k < n → ∃ s, StepAt w b (off + k * 9) s)
def PlRel (w0 : World) (gb n : Nat) (v7 v9 : Value) (wr : World) : Prop :=
  ∃ (j bf bm bi : Nat) (F : FamD) (A0 : AFam) (T : Nat → Prop) (Ar Dr : Option Addr) (c d : Nat), v9 = .int .i64 j ∧ j ≤ n ∧ j ≤ 16 ∧ v7 = .pointer (some ⟨bf, 0, none⟩) ∧ PlAt w0 gb (j + 1) bf bm bi F A0 T Ar Dr c d wr.heap.size wr
theorem StepAt.below {w W : World} {b o : Nat} {s : StepD} (h : StepAt w b o s) (hb : b < w.heap.size) (hB : Below w.heap.size w W) : StepAt W b o s := by
  have e := fun i => hB.cell (p := ⟨b, i, none⟩) hb
  refine ⟨(e _).trans h.c0, (e _).trans h.c1, (e _).trans h.c2, (e _).trans h.c3, (e _).trans h.c4, (e _).trans h.c5, (e _).trans h.c6, (e _).trans h.c7, (e _).trans h.c8, ⟨h.ints.1, fun h0 => ?_⟩, h.key, h.thr⟩
  obtain ⟨b', off, e1, e2, e3⟩ := h.ints.2 h0
  exact ⟨b', off, e1, Nat.lt_of_lt_of_le e2 hB.size, fun k hk => by obtain ⟨z, hz, hz2⟩ := e3 k hk; exact ⟨z, (hB.cell (p := ⟨b', _, none⟩) e2).trans hz, hz2⟩⟩
theorem tape_start {B : Nat} {w wr : World} {A : Option Addr} {n c : Nat} (hb : Below w.heap.size w wr) (hi : IntsAt w A n) (hB : B = w.heap.size := by rfl) : TapeIs (wr.alloc (.cells #[.slice A n c, .int .i64 0] 80)) B wr.heap.size := by
  subst hB
  refine TapeIs.made hb.size hi.1 fun h0 => ?_
  obtain ⟨b', off, e1, e2, e3⟩ := hi.2 h0
  exact ⟨b', off, e1, e2, fun k hk => by obtain ⟨z, hz, hz2⟩ := e3 k hk; exact ⟨z, (hb.cell (p := ⟨b', _, none⟩) e2).trans hz, hz2⟩⟩
theorem nums_of {w0 : World} {gb j bf bm bi : Nat} {F : FamD} {A0 : AFam} {T : Nat → Prop} {Ar Dr : Option Addr} {c d R : Nat} {W : World} (h : PlAt w0 gb (j + 1) bf bm bi F A0 T Ar Dr c d R W) (hj : j < 16) :
    Calls Try.prog 22 #[rfamV (refOf A0) Ar c Dr d] W (NumPost W) := by
  have h1 := h.ok.count
  have h2 := h.its
  refine numbers_any T W Ar Dr c d (refOf A0) h.ref (by simp [refOf]; omega) (by simp only [refOf]; omega) (fun x hx => ?_) (fun x hx => ?_)
  · obtain ⟨q, hq, rfl⟩ := List.mem_map.1 hx
    have := h.num.maps q hq
    exact ⟨by simp only [refM]; omega, by simp only [refM]; omega⟩
  · have := h.num.iters x hx
    omega
theorem play_start {w w1 w2 : World} {m : Int} {F : FamD} {Ar : Option Addr} {n : Nat} (hb : Below w.heap.size w w2) (m0 : 0 ≤ m) (m1 : m ≤ 18446744073709551615) (hb2 : Below w1.heap.size w1 w2) (hz1 : w.heap.size + 3 < w1.heap.size) (hF : FamIs w1 (w.heap.size + 3) w.heap.size (w.heap.size + 2) F) (hFa : F.abs = famO m) (hFo : ∀ k, F.own (w.heap.size + 3) w.heap.size (w.heap.size + 2) k → blk4 w.heap.size k) (hr : RFamAt (NewB w1 w2) w2 Ar none (fam0 m)) :
    PlRel w w2.heap.size n (.pointer (some ⟨w.heap.size + 3, 0, none⟩)) (.int .i64 0) (w2.alloc (.cells #[.int .u64 m, .slice Ar 1 1, .slice none 0 0] 59)) := by
  have hs2 := hb2.size
  have e0 : refOf (famO m) = fam0 m := by simp [refOf, famO, refM, fam0, sortedOf]
  have ba : Below w2.heap.size w2 (w2.alloc (.cells #[.int .u64 m, .slice Ar 1 1, .slice none 0 0] 59)) := balw (Below.refl _ _) _
  refine ⟨0, w.heap.size + 3, w.heap.size, w.heap.size + 2, F, famO m, NewB w1 w2, Ar, none, 1, 0, rfl, Nat.zero_le _, by omega, rfl, ?_⟩
  refine ⟨(hF.below hb2).below ba, by rw [e0]; exact hr.below ba, by rw [e0]; exact (heap_alloc _ _).1, by rw [hFa]; exact EqvA.refl _, ⟨by simp [famO], by simp [famO], fun p hp => by simp only [famO, List.mem_singleton] at hp; subst hp; simp⟩, famO_ok m m0 m1, by simp [famO], ⟨fun p hp => by simp only [famO, List.mem_singleton] at hp; subst hp; simp, fun p hp => by simp [famO] at hp⟩, fun b hT => ?_, fun b hb' => ?_, by omega, by simp, fun _ => rfl, Nat.le_refl _, hb.trans (ba.mono hb.size)⟩
  · have k1 := hT.1
    have k2 := hT.2
    exact ⟨fun hb' => by have := hFo b hb'; unfold blk4 at this; omega, by omega, by simp; omega⟩
  · have := hFo b hb'
    unfold blk4 at this
    exact ⟨this.1, by simp; omega, by omega⟩
/-- behind the choice of the operation -/
def OpMid (w0 wr : World) (bo : Nat) (wx : World) : Prop :=
  ∃ o : OpD, o.key.size ≤ maxLen ∧ wx.heap[bo]? = some (.cells #[.int .i64 o.kind, .int .i64 o.handle, .string o.key, .int .u64 o.value, .int .u64 o.expect] 39 (0, 0)) ∧ TapeIs wx w0.heap.size wr.heap.size ∧ Below wr.heap.size wr wx
theorem op_mid_set {w0 wr w4 : World} {bo : Nat} {o s : OpD} (hk : s.key.size ≤ maxLen) (hb : w4.heap[bo]? = some (.cells #[.int .i64 o.kind, .int .i64 o.handle, .string o.key, .int .u64 o.value, .int .u64 o.expect] 39 (0, 0))) (ht : TapeIs w4 w0.heap.size wr.heap.size) (hr : Below wr.heap.size wr w4) (h0 : w0.heap.size ≤ wr.heap.size) (hbo : wr.heap.size < bo) :
    OpMid w0 wr bo (((((w4.setCell ⟨bo, 0, none⟩ (.int .i64 s.kind)).setCell ⟨bo, 1, none⟩ (.int .i64 s.handle)).setCell ⟨bo, 2, none⟩ (.string s.key)).setCell ⟨bo, 3, none⟩ (.int .u64 s.value)).setCell ⟨bo, 4, none⟩ (.int .u64 s.expect)) := by
  have h1 := rblk_set hb 0 (.int .i64 s.kind)
  have h2 := rblk_set h1 1 (.int .i64 s.handle)
  have h3 := rblk_set h2 2 (.string s.key)
  have h4 := rblk_set h3 3 (.int .u64 s.value)
  have h5 := rblk_set h4 4 (.int .u64 s.expect)
  have hne : wr.heap.size ≠ bo := by omega
  have hB : w0.heap.size ≤ bo := by omega
  refine ⟨s, hk, h5, ((((ht.setCell hB hne _).setCell hB hne _).setCell hB hne _).setCell hB hne _).setCell hB hne _, ?_⟩
  have hp : wr.heap.size ≤ bo := by omega
  exact ((((hr.setCell (p := ⟨bo, 0, none⟩) hp _).setCell (p := ⟨bo, 1, none⟩) hp _).setCell (p := ⟨bo, 2, none⟩) hp _).setCell (p := ⟨bo, 3, none⟩) hp _).setCell (p := ⟨bo, 4, none⟩) hp _
/-- behind the choice of a number -/
def IxMid (lo hi : Int) (w5 : World) (v : Value) (wx : World) : Prop := ∃ ix : Int, v = .int .i64 ix ∧ lo ≤ ix ∧ ix ≤ hi ∧ wx = w5
theorem ixMid {lo hi : Int} {w5 : World} {x : Int} (h : lo ≤ x ∧ x ≤ hi) : IxMid lo hi w5 (.int .i64 x) w5 := ⟨x, rfl, h.1, h.2, rfl⟩
/-- behind the copy -/
def FMid (w0 : World) (gb j : Nat) (A0 : AFam) (T : Nat → Prop) (Ar Dr : Option Addr) (c d bo : Nat) (ob : Obj) (v7 : Value) (wx : World) : Prop :=
  ∃ (bf bm bi : Nat) (F : FamD), v7 = .pointer (some ⟨bf, 0, none⟩) ∧ PlAt w0 gb (j + 1) bf bm bi F A0 T Ar Dr c d wx.heap.size wx ∧ wx.heap[bo]? = some ob ∧ ¬ F.own bf bm bi bo ∧ bo ≠ gb
theorem fmid_same {w0 wr w6 : World} {gb j bf bm bi : Nat} {F : FamD} {A0 : AFam} {T : Nat → Prop} {Ar Dr : Option Addr} {c d bo : Nat} {ob : Obj} (h : PlAt w0 gb (j + 1) bf bm bi F A0 T Ar Dr c d wr.heap.size wr) (hb : Below wr.heap.size wr w6) (hx : w6.heap[bo]? = some ob) (hbo : wr.heap.size < bo) :
    FMid w0 gb j A0 T Ar Dr c d bo ob (.pointer (some ⟨bf, 0, none⟩)) w6 :=
  ⟨bf, bm, bi, F, rfl, (h.keep hb h.below.size).head, hx, fun ho => by have := (h.own bo ho).2.1; omega, by have := h.gbR; omega⟩
theorem PlAt.mid {w0 : World} {gb N bf bm bi : Nat} {F : FamD} {A0 : AFam} {T : Nat → Prop} {Ar Dr : Option Addr} {c d R : Nat} {W W1 : World} {bo : Nat} {ob : Obj} (h : PlAt w0 gb N bf bm bi F A0 T Ar Dr c d R W) (hO : Only (F.own bf bm bi) W W1) (hb : W.heap[bo]? = some ob) (hno : ¬ F.own bf bm bi bo) :
    RFamAt T W1 Ar Dr (refOf A0) ∧ W1.heap[gb]? = some (.cells #[.int .u64 A0.mask, .slice Ar (refOf A0).maps.length c, .slice Dr (refOf A0).walks.length d] 59 (0, 0)) ∧ W1.heap[bo]? = some ob := by
  have hg : gb < W.heap.size := Nat.lt_of_lt_of_le h.gbR h.size
  exact ⟨h.ref.keep ⟨hO.size, fun b hT hb => hO.block b hb (h.apart b hT).1⟩, (hO.block gb hg fun ho => (h.own gb ho).2.2 rfl).trans h.box, (hO.block bo (Array.getElem?_eq_some_iff.1 hb).1 hno).trans hb⟩
def famC (A1 : AFam) (A' D' : Option Addr) (c' d' : Nat) : Obj := .cells #[.int .u64 (refOf A1).mask, .slice A' (refOf A1).maps.length c', .slice D' (refOf A1).walks.length d'] 59
def resC (r : ResD) : Obj := .cells #[.int .i64 r.err, .bool r.found, .int .u64 r.value, .string r.key, .int .i64 r.count, .int .i64 0, .int .i64 0, .bool false] 35
def gbSet (W : World) (gb : Nat) (A1 : AFam) (A' D' : Option Addr) (c' d' : Nat) : World := ((W.setCell ⟨gb, 0, none⟩ (.int .u64 (refOf A1).mask)).setCell ⟨gb, 1, none⟩ (.slice A' (refOf A1).maps.length c')).setCell ⟨gb, 2, none⟩ (.slice D' (refOf A1).walks.length d')
theorem gbSet_else {W : World} {gb : Nat} {A1 : AFam} {A' D' : Option Addr} {c' d' b : Nat} (h : b ≠ gb) : (gbSet W gb A1 A' D' c' d').heap[b]? = W.heap[b]? := by
  unfold gbSet
  rw [Below.heap_setCell _ _ _ _ (by simpa using h), Below.heap_setCell _ _ _ _ (by simpa using h), Below.heap_setCell _ _ _ _ (by simpa using h)]
theorem gbSet_size {W : World} {gb : Nat} {A1 : AFam} {A' D' : Option Addr} {c' d' : Nat} : (gbSet W gb A1 A' D' c' d').heap.size = W.heap.size := by
  unfold gbSet
  simp [World.setCell]
theorem play_boxes {gb b19 : Nat} {W2 W3 : World} {u0 u1 u2 : Value} {ob : Obj} (hg : W2.heap[gb]? = some (.cells #[u0, u1, u2] 59 (0, 0))) (h19 : W2.heap[b19]? = some ob) (hb : Below W2.heap.size W2 W3) (A' D' : Option Addr) (c' d' : Nat) (A1 : AFam) (r : ResD) :
    ((W3.alloc (famC A1 A' D' c' d')).alloc (resC r)).heap[gb]? = some (.cells #[u0, u1, u2] 59 (0, 0)) ∧ ((W3.alloc (famC A1 A' D' c' d')).alloc (resC r)).heap[W3.heap.size]? = some (famC A1 A' D' c' d') ∧ ((W3.alloc (famC A1 A' D' c' d')).alloc (resC r)).heap[W3.heap.size + 1]? = some (resC r) ∧ ((W3.alloc (famC A1 A' D' c' d')).alloc (resC r)).heap[b19]? = some ob ∧ gb < W3.heap.size ∧ b19 < W3.heap.size := by
  obtain ⟨hb4, k20, k21, z4⟩ := refu_w W3 (famC A1 A' D' c' d') (resC r)
  have lg : gb < W2.heap.size := (Array.getElem?_eq_some_iff.1 hg).1
  have l9 : b19 < W2.heap.size := (Array.getElem?_eq_some_iff.1 h19).1
  have := hb.size
  exact ⟨(hb4.block gb (by omega)).trans ((hb.block gb lg).trans hg), k20, k21, (hb4.block b19 (by omega)).trans ((hb.block b19 l9).trans h19), by omega, by omega⟩
theorem play_next {w0 : World} {gb N bf bm bi : Nat} {F F1 : FamD} {A0 A1 : AFam} {T : Nat → Prop} {Ar Dr A' D' : Option Addr} {c d c' d' R : Nat} {W W1 W2 : World} (h : PlAt w0 gb N bf bm bi F A0 T Ar Dr c d R W) (t i : Int) (o : OpD) (hA1 : A1 = (applyA A0 t i o).1)
    (hF : FamIs W1 bf bm bi F1) (hE : EqvA F1.abs A1) (hO : Only (F.own bf bm bi) W W1) (hw : ∀ b, F1.own bf bm bi b → F.own bf bm bi b ∨ W.heap.size ≤ b)
    (hb2 : Below W1.heap.size W1 W2) (hr : RFamAt (fun b => T b ∨ NewB W1 W2 b) W2 A' D' (refOf A1)) (hd : D' = none → d' = 0) (r : ResD) :
    PlAt w0 gb (N + 1) bf bm bi F1 A1 (fun b => T b ∨ NewB W1 W2 b) A' D' c' d' (gbSet ((W2.alloc (famC A1 A' D' c' d')).alloc (resC r)) gb A1 A' D' c' d').heap.size (gbSet ((W2.alloc (famC A1 A' D' c' d')).alloc (resC r)) gb A1 A' D' c' d') := by
  obtain ⟨hb4, k20, k21, z4⟩ := refu_w W2 (famC A1 A' D' c' d') (resC r)
  have hg0 : (W1.heap[gb]?) = some (.cells #[.int .u64 A0.mask, .slice Ar (refOf A0).maps.length c, .slice Dr (refOf A0).walks.length d] 59 (0, 0)) := (hO.block gb (Nat.lt_of_lt_of_le h.gbR h.size) fun ho => (h.own gb ho).2.2 rfl).trans h.box
  have lg : gb < W1.heap.size := (Array.getElem?_eq_some_iff.1 hg0).1
  have s2 := hb2.size
  have hg4 := (hb4.block gb (by omega)).trans ((hb2.block gb lg).trans hg0)
  refine h.next t i o hA1 hF hE hO hw hb2 hr hd (fun b hb hne => ?_) ?_ ?_ ?_
  · exact (gbSet_else hne).trans (hb4.block b hb)
  · rw [gbSet_size]; omega
  · exact rblk_set (rblk_set (rblk_set hg4 0 (.int .u64 (refOf A1).mask)) 1 (.slice A' (refOf A1).maps.length c')) 2 (.slice D' (refOf A1).walks.length d')
  · have s1 := hO.size
    have s0 := h.below.size
    have b1 : Below w0.heap.size w0 W1 := h.below.trans (hO.below s0 fun b hb => (h.own b hb).1)
    have b4 : Below w0.heap.size w0 ((W2.alloc (famC A1 A' D' c' d')).alloc (resC r)) := (b1.trans (hb2.mono (by omega))).trans (hb4.mono (by omega))
    exact ((b4.setCell (p := ⟨gb, 0, none⟩) h.gb0 _).setCell (p := ⟨gb, 1, none⟩) h.gb0 _).setCell (p := ⟨gb, 2, none⟩) h.gb0 _
/-! the copy -/
def pcA : OpD := ⟨1, 0, ⟨#[111, 116, 104, 101, 114]⟩, 4, 0⟩
def pcB : OpD := ⟨8, 0, ⟨#[]⟩, 0, 0⟩
def pcO (o : OpD) : Obj := .cells #[.int .i64 o.kind, .int .i64 o.handle, .string o.key, .int .u64 o.value, .int .u64 o.expect] 39
theorem copy_equal {w0 w6 w7 : World} {gb N bf bm bi cg cm ci : Nat} {F G : FamD} {A0 : AFam} {T : Nat → Prop} {Ar Dr : Option Addr} {c d R : Nat} (h : PlAt w0 gb N bf bm bi F A0 T Ar Dr c d R w6) (hG : FamIs w7 cg cm ci G) (hE : EqvA G.abs A0) (hb : Below w6.heap.size w6 w7) (hN : N ≤ 1048576) :
    (∀ W, Below w7.heap.size w7 W → Calls Try.prog 25 #[.pointer (some ⟨cg, 0, none⟩), .pointer (some ⟨bf, 0, none⟩)] W fun e w' => e = .returned (.bool true) ∧ Below w7.heap.size w7 w') ∧
    (∀ W, Below w7.heap.size w7 W → Calls Try.prog 25 #[.pointer (some ⟨bf, 0, none⟩), .pointer (some ⟨cg, 0, none⟩)] W fun e w' => e = .returned (.bool true) ∧ Below w7.heap.size w7 w') := by
  have lF := famLe_of h.eqv h.nd h.ok h.its hN
  have lG := famLe_of hE h.nd h.ok h.its hN
  have e1 : eqD G F = true := by rw [eqD_abs, eqA_eqv hE h.eqv h.nd, eqA_refl h.nd]
  have e2 : eqD F G = true := by rw [eqD_abs, eqA_eqv h.eqv hE h.nd, eqA_refl h.nd]
  have hF := h.fam.below hb
  refine ⟨fun W hW => ?_, fun W hW => ?_⟩
  · refine (meqf_any W cg cm ci bf bm bi G F (hG.below hW) (hF.below hW) lG lF).mono fun e w' ⟨h1, h2⟩ => ⟨by rw [h1, e1], hW.trans (h2.mono hW.size)⟩
  · refine (meqf_any W bf bm bi cg cm ci F G (hF.below hW) (hG.below hW) lF lG).mono fun e w' ⟨h1, h2⟩ => ⟨by rw [h1, e2], hW.trans (h2.mono hW.size)⟩
structure CpAt (bA bB gb cg cm ci : Nat) (G : FamD) (A0 : AFam) (T : Nat → Prop) (Ar Dr : Option Addr) (c d : Nat) (P : Nat → Prop) (L : Nat) (W : World) : Prop where
  fam : FamIs W cg cm ci G
  ref : RFamAt T W Ar Dr (refOf A0)
  box : W.heap[gb]? = some (.cells #[.int .u64 A0.mask, .slice Ar (refOf A0).maps.length c, .slice Dr (refOf A0).walks.length d] 59 (0, 0))
  a : W.heap[bA]? = some (pcO pcA)
  b : W.heap[bB]? = some (pcO pcB)
  apart : ∀ k, (G.own cg cm ci k ∨ T k ∨ k = gb ∨ k = bA ∨ k = bB) → k < L ∧ ¬ P k
theorem CpAt.keep {bA bB gb cg cm ci : Nat} {G : FamD} {A0 : AFam} {T : Nat → Prop} {Ar Dr : Option Addr} {c d : Nat} {P : Nat → Prop} {L : Nat} {W W' : World} (h : CpAt bA bB gb cg cm ci G A0 T Ar Dr c d P L W) (hs : W.heap.size ≤ W'.heap.size) (hk : ∀ k, k < L → ¬ P k → W'.heap[k]? = W.heap[k]?) : CpAt bA bB gb cg cm ci G A0 T Ar Dr c d P L W' := by
  have k := fun b hb => hk b (h.apart b hb).1 (h.apart b hb).2
  exact ⟨h.fam.keep fun b hb => k b (Or.inl hb), h.ref.keep ⟨hs, fun b hT _ => k b (Or.inr (Or.inl hT))⟩, (k gb (Or.inr (Or.inr (Or.inl rfl)))).trans h.box, (k bA (Or.inr (Or.inr (Or.inr (Or.inl rfl))))).trans h.a, (k bB (Or.inr (Or.inr (Or.inr (Or.inr rfl))))).trans h.b, h.apart⟩
theorem copy_start {w0 w6 w7 w9 : World} {gb N bf bm bi cg cm ci : Nat} {F G : FamD} {A0 : AFam} {T : Nat → Prop} {Ar Dr : Option Addr} {c d R : Nat} (h : PlAt w0 gb N bf bm bi F A0 T Ar Dr c d R w6) (hG : FamIs w7 cg cm ci G) (hown : ∀ b, G.own cg cm ci b → w6.heap.size ≤ b) (hb7 : Below w6.heap.size w6 w7) (hb9 : Below w7.heap.size w7 w9) :
    CpAt w9.heap.size (w9.heap.size + 1) gb cg cm ci G A0 T Ar Dr c d (F.own bf bm bi) ((w9.alloc (pcO pcA)).alloc (pcO pcB)).heap.size ((w9.alloc (pcO pcA)).alloc (pcO pcB)) ∧ FamIs ((w9.alloc (pcO pcA)).alloc (pcO pcB)) bf bm bi F ∧ Below w6.heap.size w6 ((w9.alloc (pcO pcA)).alloc (pcO pcB)) := by
  obtain ⟨hb4, k20, k21, z4⟩ := refu_w w9 (pcO pcA) (pcO pcB)
  have s7 := hb7.size
  have s9 := hb9.size
  have hR := h.size
  have hgR := h.gbR
  have hb6 : Below w6.heap.size w6 w9 := hb7.trans (hb9.mono s7)
  have hb : Below w6.heap.size w6 ((w9.alloc (pcO pcA)).alloc (pcO pcB)) := hb6.trans (hb4.mono hb6.size)
  refine ⟨⟨(hG.below hb9).below hb4, h.ref.below hb, (hb.block gb (by omega)).trans h.box, k20, k21, fun k hk => ?_⟩, h.fam.below hb, hb⟩
  rcases hk with hk | hk | rfl | rfl | rfl
  · have l1 := hG.lt hk
    have l2 := hown k hk
    exact ⟨by omega, fun ho => by have := (h.own k ho).2.1; omega⟩
  · obtain ⟨a1, a2, a3⟩ := h.apart k hk
    exact ⟨by omega, a1⟩
  · exact ⟨by omega, fun ho => (h.own k ho).2.2 rfl⟩
  · exact ⟨by omega, fun ho => by have := (h.own _ ho).2.1; omega⟩
  · exact ⟨by omega, fun ho => by have := (h.own _ ho).2.1; omega⟩
theorem copy_g1 {bA bB gb cg cm ci bf bm bi : Nat} {G F2 : FamD} {A0 A1 : AFam} {T T1 : Nat → Prop} {Ar Dr A1' D1' : Option Addr} {c d L : Nat} {P : Nat → Prop} {w10 w12 w13 : World} (h : CpAt bA bB gb cg cm ci G A0 T Ar Dr c d P L w10) (hO : Only P w10 w12) (hI : FamIs w12 bf bm bi F2) (g1 : RFamAt T1 w13 A1' D1' (refOf A1)) (g2 : Below w12.heap.size w12 w13) (c1 d1 : Nat) (r1 : ResD) (hL : L = w10.heap.size := by rfl) :
    CpAt bA bB gb cg cm ci G A0 T Ar Dr c d P L ((w13.alloc (famC A1 A1' D1' c1 d1)).alloc (resC r1)) ∧ Only P w10 ((w13.alloc (famC A1 A1' D1' c1 d1)).alloc (resC r1)) ∧ FamIs ((w13.alloc (famC A1 A1' D1' c1 d1)).alloc (resC r1)) bf bm bi F2 ∧ RFamAt T1 ((w13.alloc (famC A1 A1' D1' c1 d1)).alloc (resC r1)) A1' D1' (refOf A1) ∧ ((w13.alloc (famC A1 A1' D1' c1 d1)).alloc (resC r1)).heap[w13.heap.size]? = some (famC A1 A1' D1' c1 d1) ∧ w12.heap.size ≤ w13.heap.size ∧ w13.heap.size < ((w13.alloc (famC A1 A1' D1' c1 d1)).alloc (resC r1)).heap.size ∧ Below w12.heap.size w12 ((w13.alloc (famC A1 A1' D1' c1 d1)).alloc (resC r1)) := by
  subst hL
  obtain ⟨hb4, k20, k21, z4⟩ := refu_w w13 (famC A1 A1' D1' c1 d1) (resC r1)
  have b : Below w12.heap.size w12 ((w13.alloc (famC A1 A1' D1' c1 d1)).alloc (resC r1)) := g2.trans (hb4.mono g2.size)
  have O := hO.trans (Only.of_below (S := fun _ => False) b) fun _ hf => hf.elim
  exact ⟨h.keep O.size O.block, O, hI.below b, g1.below hb4, k20, g2.size, by omega, b⟩
theorem copy_g2 {bA bB gb cg cm ci bf bm bi bC : Nat} {G F2 : FamD} {A0 A1 A2 : AFam} {T : Nat → Prop} {Ar Dr A1' D1' A2' D2' : Option Addr} {c d c1 d1 L : Nat} {P : Nat → Prop} {w10 w12 w13 w14 w15 : World} (h : CpAt bA bB gb cg cm ci G A0 T Ar Dr c d P L w10) (hO : Only P w10 w12) (hI : FamIs w12 bf bm bi F2) (b14 : Below w12.heap.size w12 w14) (hC : w13.heap.size = bC) (h13 : w12.heap.size ≤ bC) (k15 : w15.heap[bC]? = some (.cells #[.int .u64 (refOf A1).mask, .slice A1' (refOf A1).maps.length c1, .slice D1' (refOf A1).walks.length d1] 59 (0, 0)))
    (g1 : RFamAt (fun b => (T b ∨ NewB w12 w13 b) ∨ NewB w14 w15 b) w15 A2' D2' (refOf A2)) (g2 : Below w14.heap.size w14 w15) (c2 d2 : Nat) (hL : L = w10.heap.size := by rfl) (hlt : bC < w14.heap.size := by omega) :
    CpAt bA bB gb cg cm ci G A0 T Ar Dr c d P L (gbSet w15 bC A2 A2' D2' c2 d2) ∧ Only P w10 (gbSet w15 bC A2 A2' D2' c2 d2) ∧ FamIs (gbSet w15 bC A2 A2' D2' c2 d2) bf bm bi F2 ∧ RFamAt (fun b => (T b ∨ NewB w12 w13 b) ∨ NewB w14 w15 b) (gbSet w15 bC A2 A2' D2' c2 d2) A2' D2' (refOf A2) ∧ (gbSet w15 bC A2 A2' D2' c2 d2).heap[bC]? = some (famC A2 A2' D2' c2 d2) := by
  subst hL
  have b15 : Below w12.heap.size w12 w15 := b14.trans (g2.mono b14.size)
  have b16 : Below w12.heap.size w12 (gbSet w15 bC A2 A2' D2' c2 d2) := ((b15.setCell (p := ⟨bC, 0, none⟩) h13 _).setCell (p := ⟨bC, 1, none⟩) h13 _).setCell (p := ⟨bC, 2, none⟩) h13 _
  have O := hO.trans (Only.of_below (S := fun _ => False) b16) fun _ hf => hf.elim
  refine ⟨h.keep O.size O.block, O, hI.below b16, g1.keep ⟨by rw [gbSet_size]; exact Nat.le_refl _, fun b hT hb => gbSet_else ?_⟩, rblk_set (rblk_set (rblk_set k15 0 (.int .u64 (refOf A2).mask)) 1 (.slice A2' (refOf A2).maps.length c2)) 2 (.slice D2' (refOf A2).walks.length d2)⟩
  have s12 := hO.size
  rcases hT with (hT | hT) | hT
  · have := (h.apart b (Or.inr (Or.inl hT))).1
    omega
  · have := hT.2
    omega
  · have := hT.1
    omega
theorem copy_fin {bA bB gb cg cm ci bf bm bi N N2 : Nat} {F G F2 : FamD} {A0 A2 : AFam} {T T2 : Nat → Prop} {Ar Dr A2' D2' : Option Addr} {c d c2 d2 L : Nat} {P : Nat → Prop} {w16 : World} (h : CpAt bA bB gb cg cm ci G A0 T Ar Dr c d P L w16) (hF : EqvA F.abs A0) (hE : EqvA G.abs A0) (nd : NdA A0) (ok : OkA N A0) (its : A0.iters.length ≤ N) (hI : FamIs w16 bf bm bi F2) (hE2 : EqvA F2.abs A2) (nd2 : NdA A2) (ok2 : OkA N2 A2) (hN2 : N2 ≤ 1048576) (pos : PosA A2) (hr : RFamAt T2 w16 A2' D2' (refOf A2)) (its2 : A2.iters.length ≤ N2) (hN : N ≤ 1048576 := by omega) :
    ∃ X : Bool, (∀ W, Below w16.heap.size w16 W → Calls Try.prog 25 #[.pointer (some ⟨cg, 0, none⟩), .pointer (some ⟨bf, 0, none⟩)] W fun e w' => e = .returned (.bool X) ∧ Below w16.heap.size w16 w') ∧
      (∀ W, Below w16.heap.size w16 W → Calls Try.prog 27 #[.agg #[.int .u64 A0.mask, .slice Ar (refOf A0).maps.length c, .slice Dr (refOf A0).walks.length d], .agg #[.int .u64 (refOf A2).mask, .slice A2' (refOf A2).maps.length c2, .slice D2' (refOf A2).walks.length d2]] W fun e w' => e = .returned (.bool X) ∧ Below w16.heap.size w16 w') ∧
      (∀ W, Below w16.heap.size w16 W → Calls Try.prog 28 #[.pointer (some ⟨bf, 0, none⟩), .agg #[.int .u64 (refOf A2).mask, .slice A2' (refOf A2).maps.length c2, .slice D2' (refOf A2).walks.length d2]] W fun e w' => e = .returned (.bool true) ∧ Below w16.heap.size w16 w') := by
  have lG := famLe_of hE nd ok its hN
  have lF := famLe_of hE2 nd2 ok2 its2 hN2
  have e1 : eqD G F2 = eqA A0 A2 := by rw [eqD_abs, eqA_eqv hE hE2 nd2]
  have e2 : eqR (refOf A0) (refOf A2) = eqA A0 A2 := eq_ref nd nd2
  refine ⟨eqA A0 A2, fun W hW => ?_, fun W hW => ?_, fun W hW => ?_⟩
  · refine (meqf_any W cg cm ci bf bm bi G F2 (h.fam.below hW) (hI.below hW) lG lF).mono fun e w' ⟨h1, h2⟩ => ⟨by rw [h1, e1], hW.trans (h2.mono hW.size)⟩
  · refine (reqf_any T T2 W Ar Dr A2' D2' c d c2 d2 (refOf A0) (refOf A2) (h.ref.below hW) (hr.below hW)).mono fun e w' ⟨h1, h2⟩ => ⟨by rw [h1, e2], hW.trans (h2.mono hW.size)⟩
  · refine (same_any W bf bm bi F2 N2 hN2 (hI.below hW) (ok2.eqv hE2 nd2) T2 A2' D2' c2 d2 A2 (hr.below hW) hE2 nd2 pos).mono fun e w' ⟨h1, h2⟩ => ⟨h1, hW.trans (h2.mono hW.size)⟩
theorem copy_end {w0 w6 w10 w16 w17 : World} {bA bB gb cg cm ci bf bm bi j bo : Nat} {F G : FamD} {A0 : AFam} {T : Nat → Prop} {Ar Dr : Option Addr} {c d L R : Nat} {ob : Obj} (hp : PlAt w0 gb (j + 1) bf bm bi F A0 T Ar Dr c d R w6) (h : CpAt bA bB gb cg cm ci G A0 T Ar Dr c d (F.own bf bm bi) L w16) (b10 : Below w6.heap.size w6 w10) (hO : Only (F.own bf bm bi) w10 w16) (hb : Below w16.heap.size w16 w17) (hE : EqvA G.abs A0) (hown : ∀ b, G.own cg cm ci b → w6.heap.size ≤ b) (hx : w6.heap[bo]? = some ob) (hbo : R < bo) :
    FMid w0 gb j A0 T Ar Dr c d bo ob (.pointer (some ⟨cg, 0, none⟩)) w17 := by
  have s10 := b10.size
  have s16 := hO.size
  have s17 := hb.size
  have hR := hp.size
  have lbo : bo < w6.heap.size := (Array.getElem?_eq_some_iff.1 hx).1
  have k : ∀ b, b < w6.heap.size → ¬ F.own bf bm bi b → w17.heap[b]? = w6.heap[b]? := fun b hlt hn => (hb.block b (by omega)).trans ((hO.block b (by omega) hn).trans (b10.block b hlt))
  have s0 := hp.below.size
  have B : Below w0.heap.size w0 w17 := ((hp.below.trans (b10.mono s0)).trans (hO.below (by omega) fun b ho => (hp.own b ho).1)).trans (hb.mono (by omega))
  refine ⟨cg, cm, ci, G, rfl, hp.copied (h.fam.below hb) hE hown (fun b hlt hn => k b (by omega) hn) (by omega) B, (k bo lbo fun ho => by have := (hp.own bo ho).2.1; omega).trans hx, fun ho => by have := hown bo ho; omega, by have := hp.gbR; omega⟩
set_option maxRecDepth 100000 in
set_option maxHeartbeats 4000000 in
theorem modelPlays_walk (m : Int) (A : Option Addr) (n c0 : Nat) (few : Bool) (w : World) (m0 : 0 ≤ m) (m1 : m ≤ 18446744073709551615) (hst : StepsAt w A n) :
    Calls Try.prog 6 #[.int .u64 m, .slice A n c0, .bool few] w fun e w' => e = .returned (.bool true) ∧ Below w.heap.size w w' := by
  have ST := Lib.hid hst.2
  have hn := hst.1
  clear hst
  go_enter Try.func6, Try.ntmps6
  go_upto_if 22 with fail
  go_cut [0] (fun v0 wx => ∃ m' : Int, v0 = .int .u64 m' ∧ 0 ≤ m' ∧ m' ≤ 18446744073709551615 ∧ wx = w)
  case first =>
    cases few
    all_goals
      go_wp2_with fail
      go_meet
      first
        | exact ⟨_, rfl, m0, m1, rfl⟩
        | exact ⟨_, rfl, (and_bd m 65 m0 m1 (by omega) (by omega)).1, (and_bd m 65 m0 m1 (by omega) (by omega)).2, rfl⟩
  case rest =>
    obtain ⟨m', rfl, h0, h1, hwc⟩ := hcut
    obtain rfl : w = wc := hwc.symm
    clear hwc
    go_wp2_with fail
    refine (new_A _ m').mono ?_
    rintro e w1 ⟨rfl, hb1, hz1, F, hF, hFa, hFo⟩
    go_wp2_with fail
    refine (newfam_any w1 m' h0 h1).mono ?_
    rintro e w2 ⟨Ar, he, hr2, hb2⟩
    simp only [rfamV] at he
    subst he
    go_wp2_with fail
    have B2 : Hid (Below w.heap.size w w2) := hb1.trans (hb2.mono hb1.size)
    have z2 : w1.heap.size ≤ w2.heap.size := hb2.size
    have ST0 : Hid (PlRel w w2.heap.size n (.pointer (some ⟨w.heap.size + 3, 0, none⟩)) (.int .i64 0) (w2.alloc (.cells #[.int .u64 m', .slice Ar 1 1, .slice none 0 0] 59))) := play_start B2.out h0 h1 hb2 hz1 hF hFa hFo hr2
    clear hb1 hz1 hF hFa hFo hr2 hb2 z2 h0 h1
    go_loopw [7, 9] (fun v7 v9 wr => PlRel w w2.heap.size n v7 v9 wr) (fun _ v9 _ => n - (intOf v9).toNat)
    case atStart => exact ST0.out
    case round =>
      clear ST0 B2
      generalize w2.heap.size = gb at *
      obtain ⟨j, bf, bm, bi, F, A0, T, Ar, Dr, c, d, rfl, hj, hj16, rfl, hp⟩ := hrel
      have PL := Lib.hid hp
      clear hp
      have hj0 : (0 : Int) ≤ j := by omega
      by_cases hlt : j < n
      · by_cases h16 : j < 16
        · obtain ⟨b, off, rfl, hbz, hs⟩ := ST.out (by omega)
          obtain ⟨s, hs⟩ := hs j hlt
          have SA := Lib.hid hs
          have HS : Hid (∀ W, Below w.heap.size w W → StepAt W b (off + j * 9) s) := fun W hb => hs.below hbz hb
          have hj1 : (j : Int) < n := by omega
          have hj2 : (j : Int) < 16 := by omega
          obtain ⟨e0, e1, e2, e3, e4, e5, e6, e7, e8, _, _, _⟩ := HS.out wr PL.out.below
          clear hs
          go_wp2_with fail
          refine (tnew_any wr s.ch s.n s.c).mono ?_
          rintro e w1 ⟨rfl, rfl⟩
          have TI0 := Lib.hid (tape_start (B := w.heap.size) (c := s.c) PL.out.below SA.out.ints)
          have P1 := Lib.hid (PL.out.keep (balw (Below.refl _ _) (.cells #[.slice s.ch s.n s.c, .int .i64 0] 80)) PL.out.below.size)
          obtain ⟨y0, y1, y2⟩ := fam_cells P1.out.box
          generalize hW1 : wr.alloc (.cells #[.slice s.ch s.n s.c, .int .i64 0] 80) = w1 at *
          have z1 : w1.heap.size = wr.heap.size + 1 := by rw [← hW1]; simp
          have R1 : Hid (Below wr.heap.size wr w1) := by rw [← hW1]; exact balw (Below.refl _ _) _
          clear hW1 e0 e1 e2 e3 e4 e5 e6 e7 e8
          go_wp2_with fail
          refine (nums_of P1.out h16).mono ?_
          rintro e w2n ⟨gn, nn, cn, rfl, hna, hn1, hn2, hgn, hb2⟩
          have z2 := hb2.size
          have TI2 := Lib.hid (TI0.out.keep (hb2.block _ (by omega)) (fun k hk => hb2.block k (by have := PL.out.below.size; omega)))
          have R2 := Lib.hid (R1.out.trans (hb2.mono R1.out.size))
          have HNA := Lib.hid hna
          have hgt : gn ≠ wr.heap.size := by omega
          clear hb2 hna y0 y1 y2 TI0 R1
          go_wp2_with fail
          refine (top_any w2n w.heap.size wr.heap.size gn nn cn TI2.out hgt hn1 hn2 HNA.out).mono ?_
          rintro e w3 ⟨⟨⟨q1, q2, q3, q4, q5⟩, hof, rfl⟩, ht3, ho3⟩
          simp only [OpD.val]
          have O3 := Lib.hid hof
          have R3 : Hid (Below wr.heap.size wr w3) := R2.out.trans (ho3.below (B := wr.heap.size) R2.out.size (fun i hi => by omega))
          have TI3 := Lib.hid (ht3.keep (w' := w3.alloc (.cells #[.int .i64 q1, .int .i64 q2, .string q3, .int .u64 q4, .int .u64 q5] 39)) (Below.heap_alloc _ _ _ ht3.lt) (fun k hk => Below.heap_alloc _ _ _ (by have := R3.out.size; have := PL.out.below.size; omega)))
          have z3 : wr.heap.size < w3.heap.size := ht3.lt
          clear ht3 ho3 hof HNA R2 TI2 hgn hgt hn1 hn2
          go_wp2_with fail
          refine (tnext_any _ w.heap.size wr.heap.size 6 TI3.out (by omega) (by omega)).mono ?_
          rintro e w4 ⟨⟨r, hr0, hr6, rfl⟩, ht4, ho4⟩
          obtain ⟨bo, hbo⟩ : ∃ bo, bo = w3.heap.size := ⟨_, rfl⟩
          have hbl : wr.heap.size < bo := by omega
          have hbx : w4.heap[bo]? = some (.cells #[.int .i64 q1, .int .i64 q2, .string q3, .int .u64 q4, .int .u64 q5] 39 (0, 0)) := by rw [hbo]; exact (ho4.block w3.heap.size (by simp) (by omega)).trans (heap_alloc w3 _).1
          have R4 : Hid (Below wr.heap.size wr w4) := (R3.out.alloc R3.out.size _).trans (ho4.below (B := wr.heap.size) (by have := R3.out.size; simp; omega) (fun i hi => by omega))
          have TI4 := Lib.hid ht4
          have X4 := Lib.hid hbx
          have KO := Lib.hid (show q3.size ≤ maxLen by have := O3.out.2; simp only at this; unfold maxLen; omega)
          have hw0 : w.heap.size ≤ wr.heap.size := PL.out.below.size
          rw [← hbo]
          clear ht4 ho4 hbx hbo R3 TI3 O3 z3
          go_upto_if 53 with fail
          go_cut [] from 54 to 58 (fun wx => OpMid w wr bo wx)
          case first =>
            by_cases hr : r = 0
            · subst hr
              obtain ⟨_, e1, e2, e3, e4, e5, _, _, _, _, _, _⟩ := HS.out w4 (PL.out.below.trans (R4.out.mono hw0))
              obtain ⟨k0, k1, k2, k3, k4⟩ := op_cells X4.out
              have f0 := rblk_frozen X4.out 0
              have f1 := rblk_frozen X4.out 1
              have f2 := rblk_frozen X4.out 2
              have f3 := rblk_frozen X4.out 3
              have f4 := rblk_frozen X4.out 4
              go_wp2_with fail
              go_meet
              exact op_mid_set (o := ⟨q1, q2, q3, q4, q5⟩) SA.out.key X4.out TI4.out R4.out hw0 hbl
            · have hrb : (r == 0) = false := by simpa using hr
              go_wp2_with fail
              go_meet
              exact ⟨⟨q1, q2, q3, q4, q5⟩, KO.out, X4.out, TI4.out, R4.out⟩
          case rest =>
          obtain ⟨o, hok, hox, hot, hor⟩ := hcut
          have OK5 := Lib.hid hok
          have X5 := Lib.hid hox
          have TI5 := Lib.hid hot
          have R5 := Lib.hid hor
          clear hok hox hot hor R4 X4 TI4 KO
          obtain ⟨w5, rfl⟩ : ∃ w5 : World, w5 = wc := ⟨_, rfl⟩
          obtain ⟨_, _, _, _, _, _, e6, e7, _, _, _, hthr⟩ := HS.out w5 (PL.out.below.trans (R5.out.mono hw0))
          go_wp2_with fail
          refine (mod_any s.thread 2 w5 (by omega) (by omega)).mono ?_
          rintro e w6 ⟨rfl, rfl⟩
          have hmd := modI_bd s.thread 2 (by omega)
          generalize s.again = ag at e7
          go_upto_if 70 with fail
          go_cut [13] from 71 to 73 (fun v13 wx => IxMid 0 16 w5 v13 wx)
          case first =>
            cases ag with
            | true =>
              by_cases hz : j = 0
              · subst hz
                go_wp2_with fail
                go_meet
                exact ixMid (by omega)
              · go_wp2_with fail
                go_meet
                exact ixMid (by omega)
            | false =>
              go_wp2_with fail
              go_meet
              exact ixMid (by omega)
          case rest =>
          obtain ⟨ix, rfl, ix0, ix1, hwc⟩ := hcut
          obtain rfl : w5 = wc := hwc.symm
          clear hwc e7
          go_wp2_with fail
          refine (tnext_any _ w.heap.size wr.heap.size 9 TI5.out (by omega) (by omega)).mono ?_
          rintro e w6 ⟨⟨r9, hr90, hr99, rfl⟩, ht6, ho6⟩
          have R6 : Hid (Below wr.heap.size wr w6) := R5.out.trans (ho6.below (B := wr.heap.size) R5.out.size (fun i hi => by omega))
          have X6 := Lib.hid ((ho6.block bo (World.block_lt_of_cell? w5 ⟨bo, 0, none⟩ (blk_cell X5.out 0)) (by omega)).trans X5.out)
          clear ht6 ho6 e6
          go_upto_if 76 with fail
          go_cut [12] from 77 to 81 (fun v12 wx => IxMid (-9223372036854775808) 9223372036854775807 w6 v12 wx)
          case first =>
            by_cases hr : r9 = 0
            · subst hr
              obtain ⟨_, _, _, _, _, _, e6, _, _, _, _, hthr⟩ := HS.out w6 (PL.out.below.trans (R6.out.mono hw0))
              go_wp2_with fail
              go_meet
              exact ixMid hthr
            · have hrb : (r9 == 0) = false := by simpa using hr
              go_wp2_with fail
              go_meet
              exact ixMid (by omega)
          case rest =>
          obtain ⟨th, rfl, th0, th1, hwc⟩ := hcut
          obtain rfl : w6 = wc := hwc.symm
          clear hwc hmd hthr hr90 hr99
          obtain ⟨_, _, _, _, _, _, _, _, e8, _, _, _⟩ := HS.out w6 (PL.out.below.trans (R6.out.mono hw0))
          generalize s.copy = cp at e8
          go_upto_if 86 with fail
          go_cut [7, 14, 15, 16, 17, 18] from 87 to 136 (fun v7 v14 v15 v16 v17 v18 wx => FMid w gb j A0 T Ar Dr c d bo (.cells #[.int .i64 o.kind, .int .i64 o.handle, .string o.key, .int .u64 o.value, .int .u64 o.expect] 39 (0, 0)) v7 wx)
          case first =>
            cases cp with
            | false =>
              go_wp2_with fail
              go_meet
              exact fmid_same PL.out R6.out X6.out hbl
            | true =>
              have P6 := Lib.hid (PL.out.keep R6.out hw0)
              go_wp2_with fail
              refine (copy_any w6 bf bm bi F P6.out.fam (famLe_of P6.out.eqv P6.out.nd P6.out.ok P6.out.its (by omega))).mono ?_
              rintro e w7 ⟨cg, cm, ci, G, rfl, gF, gm, gi, gp, gow, hb7⟩
              have GE : Hid (EqvA G.abs A0) := EqvA.trans (B := F.abs) ⟨gm, gi, gp⟩ P6.out.eqv
              have GF := Lib.hid gF
              have GO := Lib.hid gow
              have B7 := Lib.hid hb7
              have EQ := Lib.hid (copy_equal P6.out GF.out GE.out hb7 (by omega))
              clear gm gi gp gF gow hb7
              go_wp2_with fail
              refine (EQ.out.1 _ (Below.refl _ _)).mono ?_
              rintro e w8 ⟨rfl, hb8⟩
              go_wp2_with fail
              refine (EQ.out.2 _ hb8).mono ?_
              rintro e w9 ⟨rfl, hb9⟩
              have B9 := Lib.hid hb9
              clear hb8 hb9 EQ
              go_upto_region 24 with fail
              have C10 := Lib.hid (copy_start P6.out GF.out GO.out B7.out B9.out)
              simp only [pcO, pcA, pcB] at C10
              generalize w9.heap.size = bA at *
              generalize ((w9.alloc (.cells #[.int .i64 1, .int .i64 0, .string ⟨#[111, 116, 104, 101, 114]⟩, .int .u64 4, .int .u64 0] 39)).alloc (.cells #[.int .i64 8, .int .i64 0, .string ⟨#[]⟩, .int .u64 0, .int .u64 0] 39)) = w10 at *
              have NP := Lib.hid (And.intro P6.out.nd (And.intro P6.out.ok (And.intro P6.out.its P6.out.dn)))
              clear B7 B9 GF
              obtain ⟨y0, y1, y2, y3, y4⟩ := op_cells C10.out.1.a
              go_wp2_with fail
              refine (fapply_any C10.out.2.1 P6.out.eqv NP.out.1 NP.out.2.1 (by omega) 7 15 pcA (by decide)).mono ?_
              rintro e w11 ⟨F1, rfl, q1, q2, q3, q4⟩
              have O11 := Lib.hid q3
              have C11 := Lib.hid (C10.out.1.keep q3.size q3.block)
              have I11 := Lib.hid (And.intro q1 (And.intro q2 q4))
              clear q1 q2 q3 q4 y0 y1 y2 y3 y4
              obtain ⟨y0, y1, y2, y3, y4⟩ := op_cells C11.out.b
              go_wp2_with fail
              refine (fapply_any I11.out.1 I11.out.2.1 (NP.out.1.apply 7 15 pcA) (NP.out.2.1.apply 7 15 pcA) (by omega) 7 14 pcB (by decide)).mono ?_
              rintro e w12 ⟨F2, rfl, q1, q2, q3, q4⟩
              have O12 := Lib.hid (O11.out.trans q3 I11.out.2.2)
              have C12 := Lib.hid (C10.out.1.keep O12.out.size O12.out.block)
              have I12 := Lib.hid (And.intro q1 q2)
              clear q1 q2 q3 q4 y0 y1 y2 y3 y4 C11 O11 I11
              obtain ⟨y0, y1, y2, y3, y4⟩ := op_cells C12.out.a
              obtain ⟨x0, x1, x2⟩ := fam_cells C12.out.box
              go_wp2_with fail
              refine (gapply_any C12.out.ref NP.out.1 NP.out.2.1 NP.out.2.2.1 (by omega) NP.out.2.2.2 7 15 (by omega) (by omega) pcA (by decide)).mono ?_
              rintro e w13 ⟨A1', c1, D1', d1, rfl, g1, g2, g3⟩
              generalize hA1 : (applyA A0 7 15 pcA).1 = A1 at *
              generalize (applyA A0 7 15 pcA).2 = r1 at *
              simp only [ResD.cells, rfamV]
              go_upto_region 27 with fail
              have M14 := Lib.hid (copy_g1 C10.out.1 O12.out I12.out.1 g1 g2 c1 d1 r1)
              have hd1 := g3
              clear g1 g2 g3 y0 y1 y2 y3 y4 x0 x1 x2
              simp only [famC, resC] at M14
              generalize hbC : w13.heap.size = bC at *
              have HBC := Lib.hid hbC
              clear hbC
              generalize ((w13.alloc (.cells #[.int .u64 (refOf A1).mask, .slice A1' (refOf A1).maps.length c1, .slice D1' (refOf A1).walks.length d1] 59)).alloc (.cells #[.int .i64 r1.err, .bool r1.found, .int .u64 r1.value, .string r1.key, .int .i64 r1.count, .int .i64 0, .int .i64 0, .bool false] 35)) = w14 at *
              obtain ⟨y0, y1, y2, y3, y4⟩ := op_cells M14.out.1.b
              obtain ⟨x0, x1, x2⟩ := fam_cells M14.out.2.2.2.2.1
              have ok1 := Lib.hid (NP.out.2.1.apply 7 15 pcA)
              have nd1 := Lib.hid (NP.out.1.apply 7 15 pcA)
              have it1 := Lib.hid (show (applyA A0 7 15 pcA).1.iters.length ≤ j + 1 + 1 from Nat.le_trans (iters_apply A0 7 15 pcA) (by have := NP.out.2.2.1; omega))
              rw [hA1] at ok1 nd1 it1
              go_wp2_with fail
              refine (gapply_any M14.out.2.2.2.1 nd1.out ok1.out it1.out (by omega) hd1 7 14 (by omega) (by omega) pcB (by decide)).mono ?_
              rintro e w15 ⟨A2', c2, D2', d2, rfl, g1, g2, g3⟩
              clear y0 y1 y2 y3 y4 x0 x1 x2 hd1
              generalize (applyA A1 7 14 pcB).2 = r2 at *
              have ok2 := Lib.hid (ok1.out.apply 7 14 pcB)
              have nd2 := Lib.hid (nd1.out.apply 7 14 pcB)
              have it2 := Nat.le_trans (iters_apply A1 7 14 pcB) (Nat.succ_le_succ it1.out)
              have PO2 := Lib.hid (((show PosA A0 from ⟨fun p hp => (P6.out.num.maps p hp).1⟩).apply 7 15 pcA).apply 7 14 pcB)
              rw [hA1] at PO2
              generalize hA2 : (applyA A1 7 14 pcB).1 = A2 at *
              clear hA2 hA1 ok1 nd1
              simp only [ResD.cells, rfamV]
              have K15 := Lib.hid ((g2.block bC M14.out.2.2.2.2.2.2.1).trans M14.out.2.2.2.2.1)
              obtain ⟨f0, f1, f2⟩ := fam_free K15.out
              obtain ⟨x0, x1, x2⟩ := fam_cells K15.out
              have C16 := Lib.hid (copy_g2 C10.out.1 O12.out I12.out.1 M14.out.2.2.2.2.2.2.2 HBC.out M14.out.2.2.2.2.2.1 K15.out g1 g2 c2 d2 (hlt := M14.out.2.2.2.2.2.2.1))
              go_upto_region 28 with fail
              have FN := Lib.hid (copy_fin C16.out.1 P6.out.eqv GE.out P6.out.nd P6.out.ok P6.out.its C16.out.2.2.1 I12.out.2 nd2.out ok2.out (by omega) PO2.out C16.out.2.2.2.1 (by omega) (c2 := c2) (d2 := d2))
              have EN := Lib.hid (fun (w17 : World) hb17 => copy_end (w17 := w17) (j := j) P6.out C16.out.1 C10.out.2.2 C16.out.2.1 hb17 GE.out GO.out X6.out hbl)
              have CE := Lib.hid (And.intro C16.out.1.box C16.out.2.2.2.2)
              clear x0 x1 x2 f0 f1 f2 C16 K15 M14 g1 g2 g3 C10 C12 I12 O12 ok2 nd2 PO2
              simp only [famC, resC, gbSet] at FN EN CE
              generalize (((w15.setCell ⟨bC, 0, none⟩ (.int .u64 (refOf A2).mask)).setCell ⟨bC, 1, none⟩ (.slice A2' (refOf A2).maps.length c2)).setCell ⟨bC, 2, none⟩ (.slice D2' (refOf A2).walks.length d2)) = w16 at *
              have KX : Hid (∀ W, Below w16.heap.size w16 W → (W.cell? ⟨gb, 0, none⟩ = some (.int .u64 A0.mask) ∧ W.cell? ⟨gb, 1, none⟩ = some (.slice Ar (refOf A0).maps.length c) ∧ W.cell? ⟨gb, 2, none⟩ = some (.slice Dr (refOf A0).walks.length d)) ∧ (W.cell? ⟨bC, 0, none⟩ = some (.int .u64 (refOf A2).mask) ∧ W.cell? ⟨bC, 1, none⟩ = some (.slice A2' (refOf A2).maps.length c2) ∧ W.cell? ⟨bC, 2, none⟩ = some (.slice D2' (refOf A2).walks.length d2))) := fun W hb =>
                ⟨fam_cells ((hb.block _ (Array.getElem?_eq_some_iff.1 CE.out.1).1).trans CE.out.1), fam_cells ((hb.block _ (Array.getElem?_eq_some_iff.1 CE.out.2).1).trans CE.out.2)⟩
              obtain ⟨X, fn1, fn2, fn3⟩ := FN.out
              have EQ3 := Lib.hid fn1
              have RQ3 := Lib.hid fn2
              have SM3 := Lib.hid fn3
              clear fn1 fn2 fn3 FN CE
              have hXX : (X != X) = false := by simp
              refine wp_region_class (C := fun W => Below w16.heap.size w16 W) (by kernel_rfl) (by kernel_rfl) (Below.refl _ _).drew ?_
              repeat (first | go_big_quiet_step (fail) | (refine' wpQuiet_take (by rfl) (fun W hW => ?_) ?_; rotate_left; (obtain ⟨⟨y0, y1, y2⟩, z0, z1, z2⟩ := KX.out W hW); go_simp; (first | rfl | (with_reducible exact EQ3.out _ hW) | (with_reducible exact RQ3.out _ hW) | (with_reducible exact SM3.out _ hW)); (simp only [Act.put, List.setIfInBounds_toArray, List.set_cons_zero, List.set_cons_succ])) | ((refine wpQuiet_skip (by rfl) ?_); (simp only [Act.put, List.setIfInBounds_toArray, List.set_cons_zero, List.set_cons_succ])))
              refine wpQuiet_nil ?_
              intro w17 hb17
              have MF := Lib.hid (EN.out w17 hb17)
              clear hb17
              go_wp2_with fail
              go_meet
              exact MF.out
          case rest =>
          obtain ⟨cf, cm, ci, G, rfl, hpm, hob, hno, hbg⟩ := hcut
          have PM := Lib.hid hpm
          have XO := Lib.hid hob
          have NO := Lib.hid hno
          have hmk : refOf A0 = refOf A0 := rfl
          clear hpm hob hno PL R6 X6 TI5 R5 X5 P1 e8
          obtain ⟨p0, p1, p2, p3, p4⟩ := op_cells XO.out
          go_wp2_with fail
          refine (fapply_any PM.out.fam PM.out.eqv PM.out.nd PM.out.ok (by omega) th ix o OK5.out).mono ?_
          rintro e W1 ⟨F1, rfl, q1, q2, q3, q4⟩
          clear p0 p1 p2 p3 p4
          generalize hrr : (applyA A0 th ix o).2 = r at *
          generalize hA1 : (applyA A0 th ix o).1 = A1 at *
          simp only [ResD.cells]
          go_upto_region 31 with fail
          have O1 := Lib.hid (q3.alloc (.cells #[.int .i64 r.err, .bool r.found, .int .u64 r.value, .string r.key, .int .i64 r.count, .int .i64 0, .int .i64 0, .bool false] 35))
          have I1 := Lib.hid (q1.below (balw (Below.refl _ _) (.cells #[.int .i64 r.err, .bool r.found, .int .u64 r.value, .string r.key, .int .i64 r.count, .int .i64 0, .int .i64 0, .bool false] 35)))
          have RS1 := Lib.hid ((heap_alloc W1 (.cells #[.int .i64 r.err, .bool r.found, .int .u64 r.value, .string r.key, .int .i64 r.count, .int .i64 0, .int .i64 0, .bool false] 35)).1)
          have E1 := Lib.hid q2
          have OW := Lib.hid q4
          have zc : wc.heap.size ≤ W1.heap.size := q3.size
          have KB := Lib.hid (PM.out.mid O1.out XO.out NO.out)
          clear q1 q2 q3 q4
          generalize W1.heap.size = b19 at *
          generalize W1.alloc (.cells #[.int .i64 r.err, .bool r.found, .int .u64 r.value, .string r.key, .int .i64 r.count, .int .i64 0, .int .i64 0, .bool false] 35) = W2 at *
          obtain ⟨y0, y1, y2⟩ := fam_cells KB.out.2.1
          obtain ⟨p0, p1, p2, p3, p4⟩ := op_cells KB.out.2.2
          go_wp2_with fail
          refine (gapply_any KB.out.1 PM.out.nd PM.out.ok PM.out.its (by omega) PM.out.dn th ix ⟨th0, th1⟩ (by omega) o OK5.out).mono ?_
          rintro e W3 ⟨A', c', D', d', rfl, g1, g2, g3⟩
          clear y0 y1 y2 p0 p1 p2 p3 p4
          rw [hrr]
          rw [hA1] at g1
          rw [hA1]
          simp only [ResD.cells, rfamV]
          go_upto_region 32 with fail
          have PN := Lib.hid (play_next PM.out th ix o hA1.symm I1.out E1.out O1.out OW.out g2 g1 g3 r (W1 := W2) (c' := c'))
          have RS2 := Lib.hid (play_boxes (gb := gb) (b19 := b19) KB.out.2.1 RS1.out g2 A' D' c' d' A1 r)
          simp only [famC, resC] at PN RS2
          obtain ⟨y0, y1, y2⟩ := fam_cells RS2.out.1
          obtain ⟨f0, f1, f2⟩ := fam_free RS2.out.1
          obtain ⟨p0, p1, p2⟩ := fam_cells RS2.out.2.1
          generalize hb20 : W3.heap.size = b20 at *
          generalize hW4 : ((W3.alloc (.cells #[.int .u64 (refOf A1).mask, .slice A' (refOf A1).maps.length c', .slice D' (refOf A1).walks.length d'] 59)).alloc (.cells #[.int .i64 r.err, .bool r.found, .int .u64 r.value, .string r.key, .int .i64 r.count, .int .i64 0, .int .i64 0, .bool false] 35)) = W4 at *
          clear hb20 hW4 g1 g2 g3
          go_upto_region 33 with fail
          have lg := PM.out.gbR
          obtain ⟨_, _, hk21, hk19, lgb, l19⟩ := RS2.out
          have BX := Lib.hid (And.intro (PN.out.box) (And.intro ((gbSet_else (A1 := A1) (A' := A') (D' := D') (c' := c') (d' := d') (show b19 ≠ gb by omega)).trans hk19) ((gbSet_else (A1 := A1) (A' := A') (D' := D') (c' := c') (d' := d') (show b20 + 1 ≠ gb by omega)).trans hk21)))
          have SM := Lib.hid (same_any _ cf cm ci F1 (j + 1 + 1) (by omega) PN.out.fam (PN.out.ok.eqv PN.out.eqv PN.out.nd) _ A' D' c' d' A1 PN.out.ref PN.out.eqv PN.out.nd ⟨fun p hp => (PN.out.num.maps p hp).1⟩)
          clear hk21 hk19 lgb l19 y0 y1 y2 f0 f1 f2 p0 p1 p2 RS2 KB lg zc
          simp only [gbSet] at PN BX SM
          generalize (((W4.setCell ⟨gb, 0, none⟩ (.int .u64 (refOf A1).mask)).setCell ⟨gb, 1, none⟩ (.slice A' (refOf A1).maps.length c')).setCell ⟨gb, 2, none⟩ (.slice D' (refOf A1).walks.length d')) = W5 at *
          obtain ⟨y0, y1, y2⟩ := fam_cells BX.out.1
          obtain ⟨s0, s1, s2, s3, s4, s5, s6, s7⟩ := res_cells BX.out.2.1
          obtain ⟨t0, t1, t2, t3, t4, t5, t6, t7⟩ := res_cells BX.out.2.2
          go_wp2_with fail
          refine SM.out.mono ?_
          rintro e W6 ⟨rfl, hb6⟩
          have P6 := Lib.hid ((PN.out.keep hb6 PN.out.below.size).head)
          clear hb6 y0 y1 y2 s0 s1 s2 s3 s4 s5 s6 s7 t0 t1 t2 t3 t4 t5 t6 t7
          go_wp2_with fail
          go_roundw
          case rel =>
            exact ⟨j + 1, _, _, _, _, _, _, _, _, _, _, by go_num, by omega, by omega, rfl, P6.out⟩
          case measure => simp [intOf]; omega
        · obtain rfl : j = 16 := by omega
          go_wp2_with fail
          refine (awake_any _).mono ?_
          rintro e w9 ⟨rfl, hb9⟩
          go_wp2_with fail
          go_ret
          exact ⟨rfl, PL.out.below.trans (hb9.mono PL.out.below.size)⟩
      · obtain rfl : j = n := by omega
        go_wp2_with fail
        refine (awake_any _).mono ?_
        rintro e w9 ⟨rfl, hb9⟩
        go_wp2_with fail
        go_ret
        exact ⟨rfl, PL.out.below.trans (hb9.mono PL.out.below.size)⟩
end Go.Proofs.Ytagfghihnkkfiaa
