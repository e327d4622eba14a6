/- The walk of the reference's keyed. -/
import Derived.Test.YtbmoehndnbbhcaaGreatDoorMRSet
import Derived.Deep.RegionHeld3
namespace Go.Proofs.YtbmoehndnbbhcaaGreatDoor
set_option linter.unusedVariables false
set_option linter.unusedSimpArgs false
open Go Go.RowKit Go.MapKept
theorem putK_eq (o : OpD) (f : Option Int) : putK o f = ((o.kind == 1 || (o.kind == 2 && !f.isSome)) || (o.kind == 3 && f.isSome) || ((o.kind == 4 && f.isSome) && f.getD 0 == o.expect)) := rfl
/-- the four boxes of keyed -/
def keyW (w : World) (o1 o2 o3 o4 : Obj) : World := (((w.alloc o1).alloc o2).alloc o3).alloc o4
theorem keyW_size (w : World) (o1 o2 o3 o4 : Obj) : (keyW w o1 o2 o3 o4).heap.size = w.heap.size + 1 + 1 + 1 + 1 := by simp [keyW]
theorem keyW_below (w : World) (o1 o2 o3 o4 : Obj) : Below w.heap.size w (keyW w o1 o2 o3 o4) := ((((Below.refl _ _).alloc (Nat.le_refl _) _).alloc (by simp) _).alloc (by simp; omega) _).alloc (by simp; omega) _
theorem keyW_0 (w : World) (o1 o2 o3 o4 : Obj) : (keyW w o1 o2 o3 o4).heap[w.heap.size]? = some o1 :=
  (Below.heap_alloc _ _ _ (by simp <;> omega)).trans ((Below.heap_alloc _ _ _ (by simp <;> omega)).trans ((Below.heap_alloc _ _ _ (by simp)).trans (heap_alloc w _).1))
theorem keyW_1 (w : World) (o1 o2 o3 o4 : Obj) : (keyW w o1 o2 o3 o4).heap[w.heap.size + 1]? = some o2 :=
  (Below.heap_alloc _ _ _ (by simp <;> omega)).trans ((Below.heap_alloc _ _ _ (by simp)).trans (newfam_block w o1 o2))
theorem keyW_2 (w : World) (o1 o2 o3 o4 : Obj) : (keyW w o1 o2 o3 o4).heap[w.heap.size + 1 + 1]? = some o3 := by
  refine (Below.heap_alloc _ _ _ (by simp)).trans ?_
  have := newfam_block (w.alloc o1) o2 o3
  rwa [show (w.alloc o1).heap.size = w.heap.size + 1 by simp] at this
theorem keyW_3 (w : World) (o1 o2 o3 o4 : Obj) : (keyW w o1 o2 o3 o4).heap[w.heap.size + 1 + 1 + 1]? = some o4 := by
  have := newfam_block ((w.alloc o1).alloc o2) o3 o4
  rwa [show ((w.alloc o1).alloc o2).heap.size = w.heap.size + 1 + 1 by simp] at this
theorem keyed_same {T : Nat → Prop} {w w' : World} {A D : Option Addr} {c d : Nat} {g : RFam} {r : ResD} {p : RFam × ResD} (hp : p = (g, r)) (h : RFamAt T w A D g) (hb : Below w.heap.size w w') :
    ∃ A' c', Ending.returned (.tuple #[rfamV g A c D d, .agg r.cells]) = .returned (.tuple #[rfamV p.1 A' c' D d, .agg p.2.cells]) ∧ RFamAt (fun b => T b ∨ NewB w w' b) w' A' D p.1 ∧ Below w.heap.size w w' := by
  subst hp
  exact ⟨A, c, rfl, (h.below hb).more (fun i hi => Or.inl hi), hb⟩
/-- the boxes of keyed in a later world: the family's, the operation's, the result's -/
structure KeyAt (w : World) (n q : Nat) (o0 o1 o5 : Obj) (W : World) : Prop where
  below : Below w.heap.size w W
  size : n ≤ W.heap.size
  q4 : q = w.heap.size + 1 + 1 + 1 + 1
  q5 : q < n
  b0 : W.heap[w.heap.size]? = some o0
  b1 : W.heap[w.heap.size + 1]? = some o1
  b5 : W.heap[q]? = some o5
theorem KeyAt.drew {w W : World} {n q : Nat} {o0 o1 o5 : Obj} (h : KeyAt w n q o0 o1 o5 W) : KeyAt w n q o0 o1 o5 W.drew := ⟨h.below.drew, h.size, h.q4, h.q5, h.b0, h.b1, h.b5⟩
theorem KeyAt.call {w W W' : World} {n q : Nat} {o0 o1 o5 : Obj} (h : KeyAt w n q o0 o1 o5 W) (hb : Below W.heap.size W W') : KeyAt w n q o0 o1 o5 W' := by
  have h4 := h.q4
  have h5 := h.q5
  have hs := h.size
  exact ⟨h.below.trans (hb.mono h.below.size), Nat.le_trans h.size hb.size, h.q4, h.q5, (hb.block _ (by omega)).trans h.b0, (hb.block _ (by omega)).trans h.b1, (hb.block _ (by omega)).trans h.b5⟩
theorem KeyAt.res2 {w W : World} {n q : Nat} {o0 o1 o5 : Obj} (h : KeyAt w n q o0 o1 o5 W) (i : Nat) (v : Value) : KeyAt w n q o0 o1 o5 (W.setCell ⟨w.heap.size + 1 + 1, i, none⟩ v) := by
  have h4 := h.q4
  exact ⟨h.below.setCell (by show _ ≤ _; simp only []; omega) _, Nat.le_trans h.size (Nat.le_of_eq (by simp [World.setCell])), h.q4, h.q5, (Below.heap_setCell _ _ _ _ (by simp only [ne_eq]; omega)).trans h.b0, (Below.heap_setCell _ _ _ _ (by simp only [ne_eq]; omega)).trans h.b1, (Below.heap_setCell _ _ _ _ (by simp only [ne_eq]; omega)).trans h.b5⟩
theorem KeyAt.res3 {w W : World} {n q : Nat} {o0 o1 o5 : Obj} (h : KeyAt w n q o0 o1 o5 W) (i : Nat) (v : Value) : KeyAt w n q o0 o1 o5 (W.setCell ⟨w.heap.size + 1 + 1 + 1, i, none⟩ v) := by
  have h4 := h.q4
  exact ⟨h.below.setCell (by show _ ≤ _; simp only []; omega) _, Nat.le_trans h.size (Nat.le_of_eq (by simp [World.setCell])), h.q4, h.q5, (Below.heap_setCell _ _ _ _ (by simp only [ne_eq]; omega)).trans h.b0, (Below.heap_setCell _ _ _ _ (by simp only [ne_eq]; omega)).trans h.b1, (Below.heap_setCell _ _ _ _ (by simp only [ne_eq]; omega)).trans h.b5⟩
/-- the boxes of the results are left alone by a call -/
theorem key_cells {w W W' : World} {n q : Nat} {o0 o1 o5 : Obj} (hb : Below W.heap.size W W') (h : KeyAt w n q o0 o1 o5 W) :
    (∀ i, W'.cell? ⟨w.heap.size + 1 + 1, i, none⟩ = W.cell? ⟨w.heap.size + 1 + 1, i, none⟩) ∧ (∀ i, W'.cell? ⟨w.heap.size + 1 + 1 + 1, i, none⟩ = W.cell? ⟨w.heap.size + 1 + 1 + 1, i, none⟩) ∧
    (∀ i, W'.frozen? ⟨w.heap.size + 1 + 1, i, none⟩ = W.frozen? ⟨w.heap.size + 1 + 1, i, none⟩) ∧ (∀ i, W'.frozen? ⟨w.heap.size + 1 + 1 + 1, i, none⟩ = W.frozen? ⟨w.heap.size + 1 + 1 + 1, i, none⟩) := by
  have h4 := h.q4
  have h5 := h.q5
  have hs := h.size
  exact ⟨fun i => hb.cell (p := ⟨_, i, none⟩) (by show _ < _; simp only []; omega), fun i => hb.cell (p := ⟨_, i, none⟩) (by show _ < _; simp only []; omega), fun i => hb.frozen (p := ⟨_, i, none⟩) (by show _ < _; simp only []; omega), fun i => hb.frozen (p := ⟨_, i, none⟩) (by show _ < _; simp only []; omega)⟩
/-- a store below leaves what lies above -/
theorem kept_store {T : Nat → Prop} {W : World} {p : Addr} (h : ¬ T p.block) (v : Value) : Kept T W (W.setCell p v) :=
  ⟨Nat.le_of_eq (by simp [World.setCell]), fun b hb _ => Below.heap_setCell _ _ _ _ (fun e => h (e ▸ hb))⟩
theorem kept_drew (T : Nat → Prop) (W : World) : Kept T W W.drew := ⟨Nat.le_refl _, fun _ _ _ => rfl⟩
/-- the old blocks of a set, and those from n on -/
def OldNew (T : Nat → Prop) (w : World) (n b : Nat) : Prop := (T b ∧ b < w.heap.size) ∨ n ≤ b
theorem PrAt.low {T : Nat → Prop} {w : World} {A : Option Addr} {l : PL} (h : PrAt T w A l) : PrAt (fun b => T b ∧ b < w.heap.size) w A l := fun h0 => by
  obtain ⟨b, hA, hT, hz, hc⟩ := h h0
  exact ⟨b, hA, ⟨hT, hz⟩, hz, hc⟩
theorem MapsAt.low {T : Nat → Prop} {w : World} {A : Option Addr} {l : List RMap} (h : MapsAt T w A l) : MapsAt (fun b => T b ∧ b < w.heap.size) w A l := fun h0 => by
  obtain ⟨b, hA, hT, hz, hc⟩ := h h0
  refine ⟨b, hA, ⟨hT, hz⟩, hz, fun i d hd => ?_⟩
  obtain ⟨u, c, c0, c1, c2, c3⟩ := hc i d hd
  exact ⟨u, c, c0, c1, c2, c3.low⟩
theorem WlkAt.low {T : Nat → Prop} {w : World} {A : Option Addr} {l : List (Int × IterD)} (h : WlkAt T w A l) : WlkAt (fun b => T b ∧ b < w.heap.size) w A l := fun h0 => by
  obtain ⟨b, hA, hT, hz, hc⟩ := h h0
  exact ⟨b, hA, ⟨hT, hz⟩, hz, hc⟩
theorem RFamAt.low {T : Nat → Prop} {w : World} {A D : Option Addr} {g : RFam} (h : RFamAt T w A D g) : RFamAt (fun b => T b ∧ b < w.heap.size) w A D g := ⟨h.maps.low, h.walks.low, h.fit⟩
theorem RFamAt.old {T : Nat → Prop} {w W : World} {A D : Option Addr} {g : RFam} (h : RFamAt T w A D g) (hb : Below w.heap.size w W) (n : Nat) : RFamAt (OldNew T w n) W A D g := (h.low.below hb).more fun _ hi => Or.inl hi
theorem PrAt.new {T : Nat → Prop} {w W W' : World} {A : Option Addr} {l : PL} {n : Nat} (h : PrAt (NewB W W') W' A l) (hn : n ≤ W.heap.size) : PrAt (OldNew T w n) W' A l := h.more fun _ hi => Or.inr (Nat.le_trans hn hi.1)
theorem RFamAt.new {T : Nat → Prop} {w W W' : World} {A D : Option Addr} {g : RFam} {n : Nat} (h : RFamAt (fun b => OldNew T w n b ∨ NewB W W' b) W' A D g) (hn : n ≤ W.heap.size) : RFamAt (OldNew T w n) W' A D g := h.more fun _ hi => by
  rcases hi with hi | hi
  · exact hi
  · exact Or.inr (Nat.le_trans hn hi.1)
theorem PrAt.store {T : Nat → Prop} {w W : World} {A : Option Addr} {l : PL} {n : Nat} (h : PrAt (OldNew T w n) W A l) {p : Addr} (h1 : w.heap.size ≤ p.block) (h2 : p.block < n) (v : Value) : PrAt (OldNew T w n) (W.setCell p v) A l :=
  h.keep (kept_store (fun e => by rcases e with e | e <;> omega) v)
theorem RFamAt.store {T : Nat → Prop} {w W : World} {A D : Option Addr} {g : RFam} {n : Nat} (h : RFamAt (OldNew T w n) W A D g) {p : Addr} (h1 : w.heap.size ≤ p.block) (h2 : p.block < n) (v : Value) : RFamAt (OldNew T w n) (W.setCell p v) A D g :=
  h.keep (kept_store (fun e => by rcases e with e | e <;> omega) v)
theorem RFamAt.done {T : Nat → Prop} {w W : World} {A D : Option Addr} {g : RFam} {n : Nat} (h : RFamAt (OldNew T w n) W A D g) (hn : w.heap.size ≤ n) : RFamAt (fun b => T b ∨ NewB w W b) W A D g := h.low.more fun _ hi => by
  rcases hi with ⟨hi | hi, hz⟩
  · exact Or.inl hi.1
  · exact Or.inr ⟨Nat.le_trans hn hi, hz⟩
theorem keyed_new {T : Nat → Prop} {w w' : World} {A D : Option Addr} {c d n : Nat} {g : RFam} {r : ResD} {p : RFam × ResD} (hp : p = (g, r)) (h : RFamAt (OldNew T w n) w' A D g) (hn : w.heap.size ≤ n) (hb : Below w.heap.size w w') :
    ∃ A' c', Ending.returned (.tuple #[rfamV g A c D d, .agg r.cells]) = .returned (.tuple #[rfamV p.1 A' c' D d, .agg p.2.cells]) ∧ RFamAt (fun b => T b ∨ NewB w w' b) w' A' D p.1 ∧ Below w.heap.size w w' := by
  subst hp
  exact ⟨A, c, rfl, h.done hn, hb⟩
theorem put_fit {m v : Int} {l : PL} {k : ByteArray} (hr : l.length < 1048576) (hk : ∀ x ∈ l, x.1.size ≤ 64) (h : k.size ≤ 64) : (putR m l k v).length ≤ 1048576 ∧ ∀ y ∈ putR m l k v, y.1.size ≤ 64 := by
  have hw : (withoutR l k).length ≤ l.length := List.length_filter_le _ _
  have hs := List.takeWhile_append_dropWhile (p := fun p => ltP m p (k, 0)) (l := withoutR l k)
  have hl := congrArg List.length hs
  simp only [List.length_append] at hl
  refine ⟨?_, fun y hy => ?_⟩
  · have := (put_perm m l k v).length_eq
    simp only [List.length_cons] at this
    omega
  · simp only [putR, List.mem_append, List.mem_cons] at hy
    rcases hy with hy | rfl | hy
    · exact hk y (without_mem (by rw [← hs]; exact List.mem_append_left _ hy)).1
    · exact h
    · exact hk y (without_mem (by rw [← hs]; exact List.mem_append_right _ hy)).1
theorem without_fit {l : PL} {k : ByteArray} (hr : l.length ≤ 1048576) (hk : ∀ x ∈ l, x.1.size ≤ 64) : (withoutR l k).length ≤ 1048576 ∧ ∀ y ∈ withoutR l k, y.1.size ≤ 64 :=
  ⟨Nat.le_trans (List.length_filter_le _ _) hr, fun y hy => hk y (without_mem hy).1⟩
set_option maxRecDepth 100000 in
set_option maxHeartbeats 2000000 in
theorem keyed_any (T : Nat → Prop) (w : World) (A D : Option Addr) (c d : Nat) (g : RFam) (h : RFamAt T w A D g) (k : Nat) (x : RMap) (hx : g.maps[k]? = some x) (o : OpD) (h1 : 1 ≤ o.kind) (h7 : o.kind ≤ 7) (hkey : o.key.size ≤ 64) (hroom : x.pairs.length < 1048576) :
    Calls Tryz.prog 54 #[rfamV g A c D d, .int .i64 k, o.val] w fun e w' => ∃ A' c', e = .returned (.tuple #[rfamV (keyedR g k x o).1 A' c' D d, .agg (keyedR g k x o).2.cells]) ∧ RFamAt (fun b => T b ∨ NewB w w' b) w' A' D (keyedR g k x o).1 ∧ Below w.heap.size w w' := by
  obtain ⟨okind, ohandle, okey, ovalue, oexpect⟩ := o
  simp only at h1 h7 hkey
  obtain ⟨b, hA, hT, hz, hc⟩ := h.maps (by have := (List.getElem?_eq_some_iff.1 hx).1; omega)
  obtain ⟨u, cu, c0, c1, c2, c3⟩ := hc k x hx
  subst hA
  have hk := (List.getElem?_eq_some_iff.1 hx).1
  have hlm := h.fit.lm
  have hlp := h.fit.lp x (List.mem_of_getElem? hx)
  have hkeys := Lib.hid (h.fit.keys x (List.mem_of_getElem? hx))
  have H := Lib.hid h
  have C3 := Lib.hid c3
  have M0 := Lib.hid h.fit.m0
  have M1 := Lib.hid h.fit.m1
  have HKY := Lib.hid hkey
  obtain ⟨W4, hW4⟩ : ∃ W4, W4 = keyW w (.cells #[.int .u64 g.mask, .slice (some ⟨b, 0, none⟩) g.maps.length c, .slice D g.walks.length d] 72) (.cells #[.int .i64 okind, .int .i64 ohandle, .string okey, .int .u64 ovalue, .int .u64 oexpect] 60) (.cells #[.int .u64 0, .slice none 0 0, .slice none 0 0] 72) (.cells #[.int .i64 0, .bool false, .int .u64 0, .string ⟨#[]⟩, .int .i64 0, .int .i64 0, .int .i64 0, .bool false] 45) := ⟨_, rfl⟩
  have e4 := hW4
  unfold keyW at e4
  have HW := Lib.hid e4
  have HS := Lib.hid (show W4.heap.size = _ from hW4 ▸ keyW_size _ _ _ _ _)
  have HB := Lib.hid (show Below w.heap.size w W4 from hW4 ▸ keyW_below _ _ _ _ _)
  have X0 := Lib.hid (show W4.heap[w.heap.size]? = _ from hW4 ▸ keyW_0 _ _ _ _ _)
  have X1 := Lib.hid (show W4.heap[w.heap.size + 1]? = _ from hW4 ▸ keyW_1 _ _ _ _ _)
  have X2 := Lib.hid (show W4.heap[w.heap.size + 1 + 1]? = _ from hW4 ▸ keyW_2 _ _ _ _ _)
  have X3 := Lib.hid (show W4.heap[w.heap.size + 1 + 1 + 1]? = _ from hW4 ▸ keyW_3 _ _ _ _ _)
  have d2 := (World.cell?_of_block (a := ⟨b, k * 3 + 2, none⟩) (HB.out.block b hz)).trans c2
  have hbz : b < W4.heap.size := by rw [HS.out]; omega
  have GT := Lib.hid (fun W (hW : Below w.heap.size w W) => get_any T W u cu x.pairs (C3.out.keep (Kept.of_below hW)) hlp okey)
  have hk0 : (0 : Int) ≤ k := by omega
  have hk1 : (k : Int) < g.maps.length := by omega
  generalize hf : alook x.pairs okey = f at *
  have HF := Lib.hid hf
  clear h hc c0 c1 c2 c3 hW4 e4 hkey hf
  simp only [rfamV, OpD.val]
  go_enter Tryz.func54, Tryz.ntmps54
  go_upto_region 1 with fail
  rw [← HW.out]
  have y1 : W4.cell? ⟨w.heap.size, 1, none⟩ = some (.slice (some ⟨b, 0, none⟩) g.maps.length c) := blk_cell X0.out 1
  have p2 : W4.cell? ⟨w.heap.size + 1, 2, none⟩ = some (.string okey) := blk_cell X1.out 2
  go_wp2_with fail
  refine (GT.out W4 HB.out).mono ?_
  rintro e w5 ⟨rfl, rfl⟩
  go_upto_region 4 with fail
  obtain ⟨W5, hW5⟩ : ∃ W5, W5 = w5.alloc (.cells #[.int .i64 0, .bool f.isSome, .int .u64 (f.getD 0), .string ⟨#[]⟩, .int .i64 0, .int .i64 0, .int .i64 0, .bool false] 45) := ⟨_, rfl⟩
  rw [← hW5]
  have S5 := Lib.hid (show W5.heap.size = w.heap.size + 1 + 1 + 1 + 1 + 1 by rw [hW5]; have := HS.out; simp; omega)
  have B5 := Lib.hid (show Below w5.heap.size w5 W5 by rw [hW5]; exact (Below.refl _ _).alloc (Nat.le_refl _) _)
  have X5 := Lib.hid (show W5.heap[w5.heap.size]? = some (.cells #[.int .i64 0, .bool f.isSome, .int .u64 (f.getD 0), .string ⟨#[]⟩, .int .i64 0, .int .i64 0, .int .i64 0, .bool false] 45 (0, 0)) by rw [hW5]; exact (heap_alloc w5 _).1)
  have s4 := HS.out
  have k1 := Lib.hid ((B5.out.block (w.heap.size + 1) (by omega)).trans X1.out)
  have p0 : W5.cell? ⟨w.heap.size + 1, 0, none⟩ = some (.int .i64 okind) := blk_cell k1.out 0
  have p4 : W5.cell? ⟨w.heap.size + 1, 4, none⟩ = some (.int .u64 oexpect) := blk_cell k1.out 4
  clear hW5 y1 p2
  have kinds : okind = 1 ∨ okind = 2 ∨ okind = 3 ∨ okind = 4 ∨ okind = 5 ∨ okind = 6 ∨ okind = 7 := by omega
  have KI := Lib.hid kinds
  clear kinds h1 h7
  go_cut [12] from 30 to 63 (fun v12 wx => v12 = .bool (putK ⟨okind, ohandle, okey, ovalue, oexpect⟩ f) ∧ wx = W5)
  case first =>
    have kinds := KI.out
    clear KI GT
    generalize hg : f.getD 0 = fv at *
    generalize hs : f.isSome = fs at *
    have HG := Lib.hid hg
    have HSM := Lib.hid hs
    clear hg hs
    rcases kinds with rfl | rfl | rfl | rfl | rfl | rfl | rfl
    all_goals
      cases fs <;> cases hv : (fv == oexpect)
    all_goals
      go_wp2_with fail
      go_meet
      refine ⟨?_, rfl⟩
      simp [putK, HSM.out, HG.out, hv]
  case rest =>
    obtain ⟨rfl, rfl⟩ := hcut
    generalize hpb : putK ⟨okind, ohandle, okey, ovalue, oexpect⟩ f = pb at *
    have PB := Lib.hid hpb
    clear hpb
    go_upto_region 5 with fail
    go_cut [13] from 64 to 80 (fun v13 wx => v13 = .bool (delK ⟨okind, ohandle, okey, ovalue, oexpect⟩ f) ∧ wx = wc)
    case first =>
      have kinds := KI.out
      clear KI GT
      generalize hg : f.getD 0 = fv at *
      generalize hs : f.isSome = fs at *
      have HG := Lib.hid hg
      have HSM := Lib.hid hs
      clear hg hs
      rcases kinds with rfl | rfl | rfl | rfl | rfl | rfl | rfl
      all_goals
        cases fs <;> cases hv : (fv == oexpect)
      all_goals
        go_wp2_with fail
        go_meet
        refine ⟨?_, rfl⟩
        simp [delK, HSM.out, HG.out, hv]
    case rest =>
      obtain ⟨rfl, rfl⟩ := hcut
      generalize hdb : delK ⟨okind, ohandle, okey, ovalue, oexpect⟩ f = db at *
      have DB := Lib.hid hdb
      clear hdb
      have a0 := Lib.hid ((B5.out.block w.heap.size (by omega)).trans X0.out)
      have a2 := Lib.hid ((B5.out.block (w.heap.size + 1 + 1) (by omega)).trans X2.out)
      have a3 := Lib.hid ((B5.out.block (w.heap.size + 1 + 1 + 1) (by omega)).trans X3.out)
      have e5 : w5.heap.size = w.heap.size + 1 + 1 + 1 + 1 := s4
      have BW := Lib.hid (HB.out.trans (B5.out.mono HB.out.size))
      have m1 : ¬ w5.heap.size = w.heap.size + 1 + 1 := by omega
      have m2 : ¬ w.heap.size + 1 + 1 = w5.heap.size := by omega
      have m3 : ¬ w5.heap.size = w.heap.size + 1 + 1 + 1 := by omega
      have m4 : ¬ w.heap.size + 1 + 1 + 1 = w5.heap.size := by omega
      have m5 : ¬ w5.heap.size = w.heap.size := by omega
      have m6 : ¬ w.heap.size = w5.heap.size := by omega
      have E5 := Lib.hid e5
      clear e5 s4
      cases pb with
      | true =>
        have x5 := X5.out
        have z4 : wc.cell? ⟨w5.heap.size, 4, none⟩ = some (.int .i64 0) := blk_cell x5 4
        have fz4 := rblk_frozen x5 4
        go_upto_region 8 with fail
        obtain ⟨WS, hWS⟩ : ∃ WS, WS = wc.setCell ⟨w5.heap.size, 4, none⟩ (.int .i64 1) := ⟨_, rfl⟩
        rw [← hWS]
        have e5 := E5.out
        have hsz : WS.heap.size = wc.heap.size := by rw [hWS]; simp [World.setCell]
        have zwc : w5.heap.size < wc.heap.size := (Array.getElem?_eq_some_iff.1 x5).1
        have bWS : ∀ i, i ≠ w5.heap.size → WS.heap[i]? = wc.heap[i]? := fun i hi => by rw [hWS]; exact Below.heap_setCell _ _ _ _ hi
        have f2 := (bWS _ (by omega)).trans a2.out
        have f3 := (bWS _ (by omega)).trans a3.out
        have kb : Below w.heap.size w WS := by rw [hWS]; exact BW.out.setCell (p := ⟨w5.heap.size, 4, none⟩) (by show w.heap.size ≤ w5.heap.size; omega) _
        have k0 := (bWS _ (by omega)).trans a0.out
        have k1' := (bWS _ (by omega)).trans k1.out
        have k5 : WS.heap[w5.heap.size]? = some (.cells #[.int .i64 0, .bool f.isSome, .int .u64 (f.getD 0), .string ⟨#[]⟩, .int .i64 1, .int .i64 0, .int .i64 0, .bool false] 45 (0, 0)) := by rw [hWS]; exact rblk_set x5 4 (.int .i64 1)
        obtain ⟨n, hn⟩ : ∃ n, n = WS.heap.size := ⟨_, rfl⟩
        have KA0 : Hid (KeyAt w n w5.heap.size (.cells #[.int .u64 g.mask, .slice (some ⟨b, 0, none⟩) g.maps.length c, .slice D g.walks.length d] 72 (0, 0)) (.cells #[.int .i64 okind, .int .i64 ohandle, .string okey, .int .u64 ovalue, .int .u64 oexpect] 60 (0, 0)) (.cells #[.int .i64 0, .bool f.isSome, .int .u64 (f.getD 0), .string ⟨#[]⟩, .int .i64 1, .int .i64 0, .int .i64 0, .bool false] 45 (0, 0)) WS) := ⟨kb, by omega, e5, by omega, k0, k1', k5⟩
        have r0 : WS.cell? ⟨w.heap.size + 1 + 1, 0, none⟩ = some (.int .u64 0) := blk_cell f2 0
        have fr0 := rblk_frozen f2 0
        have r1 : WS.cell? ⟨w.heap.size + 1 + 1, 1, none⟩ = some (.slice none 0 0) := blk_cell f2 1
        have fr1 := rblk_frozen f2 1
        have r2 : WS.cell? ⟨w.heap.size + 1 + 1, 2, none⟩ = some (.slice none 0 0) := blk_cell f2 2
        have fr2 := rblk_frozen f2 2
        have t0 : WS.cell? ⟨w.heap.size + 1 + 1 + 1, 0, none⟩ = some (.int .i64 0) := blk_cell f3 0
        have ft0 := rblk_frozen f3 0
        have t1 : WS.cell? ⟨w.heap.size + 1 + 1 + 1, 1, none⟩ = some (.bool false) := blk_cell f3 1
        have ft1 := rblk_frozen f3 1
        have t2 : WS.cell? ⟨w.heap.size + 1 + 1 + 1, 2, none⟩ = some (.int .u64 0) := blk_cell f3 2
        have ft2 := rblk_frozen f3 2
        have t3 : WS.cell? ⟨w.heap.size + 1 + 1 + 1, 3, none⟩ = some (.string ⟨#[]⟩) := blk_cell f3 3
        have ft3 := rblk_frozen f3 3
        have t4 : WS.cell? ⟨w.heap.size + 1 + 1 + 1, 4, none⟩ = some (.int .i64 0) := blk_cell f3 4
        have ft4 := rblk_frozen f3 4
        have t5 : WS.cell? ⟨w.heap.size + 1 + 1 + 1, 5, none⟩ = some (.int .i64 0) := blk_cell f3 5
        have ft5 := rblk_frozen f3 5
        have t6 : WS.cell? ⟨w.heap.size + 1 + 1 + 1, 6, none⟩ = some (.int .i64 0) := blk_cell f3 6
        have ft6 := rblk_frozen f3 6
        have t7 : WS.cell? ⟨w.heap.size + 1 + 1 + 1, 7, none⟩ = some (.bool false) := blk_cell f3 7
        have ft7 := rblk_frozen f3 7
        have KEEP : Hid (∀ W, KeyAt w n w5.heap.size (.cells #[.int .u64 g.mask, .slice (some ⟨b, 0, none⟩) g.maps.length c, .slice D g.walks.length d] 72 (0, 0)) (.cells #[.int .i64 okind, .int .i64 ohandle, .string okey, .int .u64 ovalue, .int .u64 oexpect] 60 (0, 0)) (.cells #[.int .i64 0, .bool f.isSome, .int .u64 (f.getD 0), .string ⟨#[]⟩, .int .i64 1, .int .i64 0, .int .i64 0, .bool false] 45 (0, 0)) W → (W.cell? ⟨w.heap.size, 0, none⟩ = some (.int .u64 g.mask) ∧ W.cell? ⟨w.heap.size, 1, none⟩ = some (.slice (some ⟨b, 0, none⟩) g.maps.length c) ∧ W.cell? ⟨w.heap.size, 2, none⟩ = some (.slice D g.walks.length d) ∧ W.cell? ⟨w.heap.size + 1, 2, none⟩ = some (.string okey) ∧ W.cell? ⟨w.heap.size + 1, 3, none⟩ = some (.int .u64 ovalue) ∧ W.cell? ⟨w5.heap.size, 0, none⟩ = some (.int .i64 0) ∧ W.cell? ⟨w5.heap.size, 1, none⟩ = some (.bool f.isSome) ∧ W.cell? ⟨w5.heap.size, 2, none⟩ = some (.int .u64 (f.getD 0)) ∧ W.cell? ⟨w5.heap.size, 3, none⟩ = some (.string ⟨#[]⟩) ∧ W.cell? ⟨w5.heap.size, 4, none⟩ = some (.int .i64 1) ∧ W.cell? ⟨w5.heap.size, 5, none⟩ = some (.int .i64 0) ∧ W.cell? ⟨w5.heap.size, 6, none⟩ = some (.int .i64 0) ∧ W.cell? ⟨w5.heap.size, 7, none⟩ = some (.bool false))) := fun W h => ⟨blk_cell h.b0 0, blk_cell h.b0 1, blk_cell h.b0 2, blk_cell h.b1 2, blk_cell h.b1 3, blk_cell h.b5 0, blk_cell h.b5 1, blk_cell h.b5 2, blk_cell h.b5 3, blk_cell h.b5 4, blk_cell h.b5 5, blk_cell h.b5 6, blk_cell h.b5 7⟩
        have KK := Lib.hid (show keyedR g k x ⟨okind, ohandle, okey, ovalue, oexpect⟩ = (setM g k (putR g.mask x.pairs okey ovalue), { found := f.isSome, value := f.getD 0, count := 1 }) by
          unfold keyedR
          simp only [HF.out, PB.out]
          rfl)
        have LL : Hid ((putR g.mask x.pairs okey ovalue).length ≤ 1048576 ∧ ∀ y ∈ putR g.mask x.pairs okey ovalue, y.1.size ≤ 64) := put_fit hroom hkeys.out HKY.out
        have N4 : Hid (w.heap.size + 1 + 1 + 1 < n ∧ w.heap.size ≤ n) := Lib.hid ⟨by omega, by omega⟩
        clear hWS hsz zwc bWS f2 f3 kb k0 k1' k5 hn x5 z4 fz4 a0 a2 a3 X5 k1 m1 m2 m3 m4 m5 m6 E5 e5 X0 X1 X2 X3 HS S5 B5 BW HW d2 hbz GT hz hT p0 p4
        go_region_held3 (fun W => (W.cell? ⟨w.heap.size, 0, none⟩ = some (.int .u64 g.mask) ∧ W.cell? ⟨w.heap.size, 1, none⟩ = some (.slice (some ⟨b, 0, none⟩) g.maps.length c) ∧ W.cell? ⟨w.heap.size, 2, none⟩ = some (.slice D g.walks.length d) ∧ W.cell? ⟨w.heap.size + 1, 2, none⟩ = some (.string okey) ∧ W.cell? ⟨w.heap.size + 1, 3, none⟩ = some (.int .u64 ovalue) ∧ W.cell? ⟨w5.heap.size, 0, none⟩ = some (.int .i64 0) ∧ W.cell? ⟨w5.heap.size, 1, none⟩ = some (.bool f.isSome) ∧ W.cell? ⟨w5.heap.size, 2, none⟩ = some (.int .u64 (f.getD 0)) ∧ W.cell? ⟨w5.heap.size, 3, none⟩ = some (.string ⟨#[]⟩) ∧ W.cell? ⟨w5.heap.size, 4, none⟩ = some (.int .i64 1) ∧ W.cell? ⟨w5.heap.size, 5, none⟩ = some (.int .i64 0) ∧ W.cell? ⟨w5.heap.size, 6, none⟩ = some (.int .i64 0) ∧ W.cell? ⟨w5.heap.size, 7, none⟩ = some (.bool false))) ((refine KEEP.out _ ?_; (repeat' (first | (with_reducible exact KA7.out) | (with_reducible exact KA6.out) | (with_reducible exact KA0.out) | (with_reducible refine KeyAt.drew ?_) | (with_reducible refine KeyAt.res2 ?_ _ _) | (with_reducible refine KeyAt.res3 ?_ _ _))))) (first | ((have hx := P6); clear hx; go_at_call 52; (refine (rset_any (OldNew T w n) _ (some ⟨b, 0, none⟩) D c d g ?hf k hk _ _ (putR g.mask x.pairs okey ovalue) ?hl LL.out.1 LL.out.2).mono ?_); (case hf => exact H.out.old (by (refine KeyAt.below (n := n) (q := w5.heap.size) (o0 := (.cells #[.int .u64 g.mask, .slice (some ⟨b, 0, none⟩) g.maps.length c, .slice D g.walks.length d] 72 (0, 0))) (o1 := (.cells #[.int .i64 okind, .int .i64 ohandle, .string okey, .int .u64 ovalue, .int .u64 oexpect] 60 (0, 0))) (o5 := (.cells #[.int .i64 0, .bool f.isSome, .int .u64 (f.getD 0), .string ⟨#[]⟩, .int .i64 1, .int .i64 0, .int .i64 0, .bool false] 45 (0, 0))) ?_; (repeat' (first | (with_reducible exact KA7.out) | (with_reducible exact KA6.out) | (with_reducible exact KA0.out) | (with_reducible refine KeyAt.drew ?_) | (with_reducible refine KeyAt.res2 ?_ _ _) | (with_reducible refine KeyAt.res3 ?_ _ _))))) n); (case hl => (repeat' (first | (with_reducible exact P6.out) | (with_reducible refine PrAt.store ?_ ?_ ?_ _) | (simp only []; have hx := N4.out; omega)))); rintro e w7 ⟨A7, c7, he, hf7, hb7⟩; (simp only [rfamV] at he); subst he; (have KA7 := Lib.hid (KeyAt.call (by (repeat' (first | (with_reducible exact KA7.out) | (with_reducible exact KA6.out) | (with_reducible exact KA0.out) | (with_reducible refine KeyAt.drew ?_) | (with_reducible refine KeyAt.res2 ?_ _ _) | (with_reducible refine KeyAt.res3 ?_ _ _))) : KeyAt w n w5.heap.size (.cells #[.int .u64 g.mask, .slice (some ⟨b, 0, none⟩) g.maps.length c, .slice D g.walks.length d] 72 (0, 0)) (.cells #[.int .i64 okind, .int .i64 ohandle, .string okey, .int .u64 ovalue, .int .u64 oexpect] 60 (0, 0)) (.cells #[.int .i64 0, .bool f.isSome, .int .u64 (f.getD 0), .string ⟨#[]⟩, .int .i64 1, .int .i64 0, .int .i64 0, .bool false] 45 (0, 0)) _) hb7)); (obtain ⟨c4, c5, g4, g5⟩ := key_cells hb7 (by (repeat' (first | (with_reducible exact KA7.out) | (with_reducible exact KA6.out) | (with_reducible exact KA0.out) | (with_reducible refine KeyAt.drew ?_) | (with_reducible refine KeyAt.res2 ?_ _ _) | (with_reducible refine KeyAt.res3 ?_ _ _))) : KeyAt w n w5.heap.size (.cells #[.int .u64 g.mask, .slice (some ⟨b, 0, none⟩) g.maps.length c, .slice D g.walks.length d] 72 (0, 0)) (.cells #[.int .i64 okind, .int .i64 ohandle, .string okey, .int .u64 ovalue, .int .u64 oexpect] 60 (0, 0)) (.cells #[.int .i64 0, .bool f.isSome, .int .u64 (f.getD 0), .string ⟨#[]⟩, .int .i64 1, .int .i64 0, .int .i64 0, .bool false] 45 (0, 0)) _)); (have F7 := Lib.hid (hf7.new (KeyAt.size (by (repeat' (first | (with_reducible exact KA7.out) | (with_reducible exact KA6.out) | (with_reducible exact KA0.out) | (with_reducible refine KeyAt.drew ?_) | (with_reducible refine KeyAt.res2 ?_ _ _) | (with_reducible refine KeyAt.res3 ?_ _ _))) : KeyAt w n w5.heap.size (.cells #[.int .u64 g.mask, .slice (some ⟨b, 0, none⟩) g.maps.length c, .slice D g.walks.length d] 72 (0, 0)) (.cells #[.int .i64 okind, .int .i64 ohandle, .string okey, .int .u64 ovalue, .int .u64 oexpect] 60 (0, 0)) (.cells #[.int .i64 0, .bool f.isSome, .int .u64 (f.getD 0), .string ⟨#[]⟩, .int .i64 1, .int .i64 0, .int .i64 0, .bool false] 45 (0, 0)) _)))); clear hf7 hb7) | ((have hx := KA0); clear hx; go_at_call 67; (refine (put_any T _ u cu x.pairs ?hp hlp g.mask M0.out M1.out hkeys.out okey HKY.out ovalue).mono ?_); (case hp => exact C3.out.keep (Kept.of_below (by (refine KeyAt.below (n := n) (q := w5.heap.size) (o0 := (.cells #[.int .u64 g.mask, .slice (some ⟨b, 0, none⟩) g.maps.length c, .slice D g.walks.length d] 72 (0, 0))) (o1 := (.cells #[.int .i64 okind, .int .i64 ohandle, .string okey, .int .u64 ovalue, .int .u64 oexpect] 60 (0, 0))) (o5 := (.cells #[.int .i64 0, .bool f.isSome, .int .u64 (f.getD 0), .string ⟨#[]⟩, .int .i64 1, .int .i64 0, .int .i64 0, .bool false] 45 (0, 0))) ?_; (repeat' (first | (with_reducible exact KA7.out) | (with_reducible exact KA6.out) | (with_reducible exact KA0.out) | (with_reducible refine KeyAt.drew ?_) | (with_reducible refine KeyAt.res2 ?_ _ _) | (with_reducible refine KeyAt.res3 ?_ _ _))))))); rintro e w6 ⟨Al, cl, he, hown, hb6⟩; subst he; (have KA6 := Lib.hid (KeyAt.call (by (repeat' (first | (with_reducible exact KA7.out) | (with_reducible exact KA6.out) | (with_reducible exact KA0.out) | (with_reducible refine KeyAt.drew ?_) | (with_reducible refine KeyAt.res2 ?_ _ _) | (with_reducible refine KeyAt.res3 ?_ _ _))) : KeyAt w n w5.heap.size (.cells #[.int .u64 g.mask, .slice (some ⟨b, 0, none⟩) g.maps.length c, .slice D g.walks.length d] 72 (0, 0)) (.cells #[.int .i64 okind, .int .i64 ohandle, .string okey, .int .u64 ovalue, .int .u64 oexpect] 60 (0, 0)) (.cells #[.int .i64 0, .bool f.isSome, .int .u64 (f.getD 0), .string ⟨#[]⟩, .int .i64 1, .int .i64 0, .int .i64 0, .bool false] 45 (0, 0)) _) hb6)); (obtain ⟨c2, c3, g2, g3⟩ := key_cells hb6 (by (repeat' (first | (with_reducible exact KA7.out) | (with_reducible exact KA6.out) | (with_reducible exact KA0.out) | (with_reducible refine KeyAt.drew ?_) | (with_reducible refine KeyAt.res2 ?_ _ _) | (with_reducible refine KeyAt.res3 ?_ _ _))) : KeyAt w n w5.heap.size (.cells #[.int .u64 g.mask, .slice (some ⟨b, 0, none⟩) g.maps.length c, .slice D g.walks.length d] 72 (0, 0)) (.cells #[.int .i64 okind, .int .i64 ohandle, .string okey, .int .u64 ovalue, .int .u64 oexpect] 60 (0, 0)) (.cells #[.int .i64 0, .bool f.isSome, .int .u64 (f.getD 0), .string ⟨#[]⟩, .int .i64 1, .int .i64 0, .int .i64 0, .bool false] 45 (0, 0)) _)); (have P6 := Lib.hid ((prAt_of_row hown rfl).new (T := T) (w := w) (n := n) (KeyAt.size (by (repeat' (first | (with_reducible exact KA7.out) | (with_reducible exact KA6.out) | (with_reducible exact KA0.out) | (with_reducible refine KeyAt.drew ?_) | (with_reducible refine KeyAt.res2 ?_ _ _) | (with_reducible refine KeyAt.res3 ?_ _ _))) : KeyAt w n w5.heap.size (.cells #[.int .u64 g.mask, .slice (some ⟨b, 0, none⟩) g.maps.length c, .slice D g.walks.length d] 72 (0, 0)) (.cells #[.int .i64 okind, .int .i64 ohandle, .string okey, .int .u64 ovalue, .int .u64 oexpect] 60 (0, 0)) (.cells #[.int .i64 0, .bool f.isSome, .int .u64 (f.getD 0), .string ⟨#[]⟩, .int .i64 1, .int .i64 0, .int .i64 0, .bool false] 45 (0, 0)) _)))); clear hown hb6))
        all_goals
          go_wp2_with fail
          try simp only [Exit.inBlock, Exit.then]
          refine bodyPost_ret (v := .tuple #[rfamV (setM g k (putR g.mask x.pairs okey ovalue)) A7 c7 D d, .agg ({ found := f.isSome, value := f.getD 0, count := 1 } : ResD).cells]) (by simp [results, Tryz.results54, go_sem, rfamV, ResD.cells, r0, r1, r2, t0, t1, t2, t3, t4, t5, t6, t7, c2, c3, c4, c5]) rfl ?_
          refine keyed_new (n := n) KK.out ?_ N4.out.2 ?_
          · repeat' (first | (with_reducible exact F7.out) | (with_reducible refine RFamAt.store ?_ ?_ ?_ _) | (simp only []; have hx := N4.out; omega))
          · (refine KeyAt.below (n := n) (q := w5.heap.size) (o0 := (.cells #[.int .u64 g.mask, .slice (some ⟨b, 0, none⟩) g.maps.length c, .slice D g.walks.length d] 72 (0, 0))) (o1 := (.cells #[.int .i64 okind, .int .i64 ohandle, .string okey, .int .u64 ovalue, .int .u64 oexpect] 60 (0, 0))) (o5 := (.cells #[.int .i64 0, .bool f.isSome, .int .u64 (f.getD 0), .string ⟨#[]⟩, .int .i64 1, .int .i64 0, .int .i64 0, .bool false] 45 (0, 0))) ?_; (repeat' (first | (with_reducible exact KA7.out) | (with_reducible exact KA6.out) | (with_reducible exact KA0.out) | (with_reducible refine KeyAt.drew ?_) | (with_reducible refine KeyAt.res2 ?_ _ _) | (with_reducible refine KeyAt.res3 ?_ _ _))))
      | false =>
        cases db with
        | true =>
          have x5 := X5.out
          have z4 : wc.cell? ⟨w5.heap.size, 4, none⟩ = some (.int .i64 0) := blk_cell x5 4
          have fz4 := rblk_frozen x5 4
          go_upto_region 11 with fail
          obtain ⟨WS, hWS⟩ : ∃ WS, WS = wc.setCell ⟨w5.heap.size, 4, none⟩ (.int .i64 1) := ⟨_, rfl⟩
          rw [← hWS]
          have e5 := E5.out
          have hsz : WS.heap.size = wc.heap.size := by rw [hWS]; simp [World.setCell]
          have zwc : w5.heap.size < wc.heap.size := (Array.getElem?_eq_some_iff.1 x5).1
          have bWS : ∀ i, i ≠ w5.heap.size → WS.heap[i]? = wc.heap[i]? := fun i hi => by rw [hWS]; exact Below.heap_setCell _ _ _ _ hi
          have f2 := (bWS _ (by omega)).trans a2.out
          have f3 := (bWS _ (by omega)).trans a3.out
          have kb : Below w.heap.size w WS := by rw [hWS]; exact BW.out.setCell (p := ⟨w5.heap.size, 4, none⟩) (by show w.heap.size ≤ w5.heap.size; omega) _
          have k0 := (bWS _ (by omega)).trans a0.out
          have k1' := (bWS _ (by omega)).trans k1.out
          have k5 : WS.heap[w5.heap.size]? = some (.cells #[.int .i64 0, .bool f.isSome, .int .u64 (f.getD 0), .string ⟨#[]⟩, .int .i64 1, .int .i64 0, .int .i64 0, .bool false] 45 (0, 0)) := by rw [hWS]; exact rblk_set x5 4 (.int .i64 1)
          obtain ⟨n, hn⟩ : ∃ n, n = WS.heap.size := ⟨_, rfl⟩
          have KA0 : Hid (KeyAt w n w5.heap.size (.cells #[.int .u64 g.mask, .slice (some ⟨b, 0, none⟩) g.maps.length c, .slice D g.walks.length d] 72 (0, 0)) (.cells #[.int .i64 okind, .int .i64 ohandle, .string okey, .int .u64 ovalue, .int .u64 oexpect] 60 (0, 0)) (.cells #[.int .i64 0, .bool f.isSome, .int .u64 (f.getD 0), .string ⟨#[]⟩, .int .i64 1, .int .i64 0, .int .i64 0, .bool false] 45 (0, 0)) WS) := ⟨kb, by omega, e5, by omega, k0, k1', k5⟩
          have r0 : WS.cell? ⟨w.heap.size + 1 + 1, 0, none⟩ = some (.int .u64 0) := blk_cell f2 0
          have fr0 := rblk_frozen f2 0
          have r1 : WS.cell? ⟨w.heap.size + 1 + 1, 1, none⟩ = some (.slice none 0 0) := blk_cell f2 1
          have fr1 := rblk_frozen f2 1
          have r2 : WS.cell? ⟨w.heap.size + 1 + 1, 2, none⟩ = some (.slice none 0 0) := blk_cell f2 2
          have fr2 := rblk_frozen f2 2
          have t0 : WS.cell? ⟨w.heap.size + 1 + 1 + 1, 0, none⟩ = some (.int .i64 0) := blk_cell f3 0
          have ft0 := rblk_frozen f3 0
          have t1 : WS.cell? ⟨w.heap.size + 1 + 1 + 1, 1, none⟩ = some (.bool false) := blk_cell f3 1
          have ft1 := rblk_frozen f3 1
          have t2 : WS.cell? ⟨w.heap.size + 1 + 1 + 1, 2, none⟩ = some (.int .u64 0) := blk_cell f3 2
          have ft2 := rblk_frozen f3 2
          have t3 : WS.cell? ⟨w.heap.size + 1 + 1 + 1, 3, none⟩ = some (.string ⟨#[]⟩) := blk_cell f3 3
          have ft3 := rblk_frozen f3 3
          have t4 : WS.cell? ⟨w.heap.size + 1 + 1 + 1, 4, none⟩ = some (.int .i64 0) := blk_cell f3 4
          have ft4 := rblk_frozen f3 4
          have t5 : WS.cell? ⟨w.heap.size + 1 + 1 + 1, 5, none⟩ = some (.int .i64 0) := blk_cell f3 5
          have ft5 := rblk_frozen f3 5
          have t6 : WS.cell? ⟨w.heap.size + 1 + 1 + 1, 6, none⟩ = some (.int .i64 0) := blk_cell f3 6
          have ft6 := rblk_frozen f3 6
          have t7 : WS.cell? ⟨w.heap.size + 1 + 1 + 1, 7, none⟩ = some (.bool false) := blk_cell f3 7
          have ft7 := rblk_frozen f3 7
          have KEEP : Hid (∀ W, KeyAt w n w5.heap.size (.cells #[.int .u64 g.mask, .slice (some ⟨b, 0, none⟩) g.maps.length c, .slice D g.walks.length d] 72 (0, 0)) (.cells #[.int .i64 okind, .int .i64 ohandle, .string okey, .int .u64 ovalue, .int .u64 oexpect] 60 (0, 0)) (.cells #[.int .i64 0, .bool f.isSome, .int .u64 (f.getD 0), .string ⟨#[]⟩, .int .i64 1, .int .i64 0, .int .i64 0, .bool false] 45 (0, 0)) W → (W.cell? ⟨w.heap.size, 0, none⟩ = some (.int .u64 g.mask) ∧ W.cell? ⟨w.heap.size, 1, none⟩ = some (.slice (some ⟨b, 0, none⟩) g.maps.length c) ∧ W.cell? ⟨w.heap.size, 2, none⟩ = some (.slice D g.walks.length d) ∧ W.cell? ⟨w.heap.size + 1, 2, none⟩ = some (.string okey) ∧ W.cell? ⟨w5.heap.size, 0, none⟩ = some (.int .i64 0) ∧ W.cell? ⟨w5.heap.size, 1, none⟩ = some (.bool f.isSome) ∧ W.cell? ⟨w5.heap.size, 2, none⟩ = some (.int .u64 (f.getD 0)) ∧ W.cell? ⟨w5.heap.size, 3, none⟩ = some (.string ⟨#[]⟩) ∧ W.cell? ⟨w5.heap.size, 4, none⟩ = some (.int .i64 1) ∧ W.cell? ⟨w5.heap.size, 5, none⟩ = some (.int .i64 0) ∧ W.cell? ⟨w5.heap.size, 6, none⟩ = some (.int .i64 0) ∧ W.cell? ⟨w5.heap.size, 7, none⟩ = some (.bool false))) := fun W h => ⟨blk_cell h.b0 0, blk_cell h.b0 1, blk_cell h.b0 2, blk_cell h.b1 2, blk_cell h.b5 0, blk_cell h.b5 1, blk_cell h.b5 2, blk_cell h.b5 3, blk_cell h.b5 4, blk_cell h.b5 5, blk_cell h.b5 6, blk_cell h.b5 7⟩
          have KK := Lib.hid (show keyedR g k x ⟨okind, ohandle, okey, ovalue, oexpect⟩ = (setM g k (withoutR x.pairs okey), { found := f.isSome, value := f.getD 0, count := 1 }) by
            unfold keyedR
            simp only [HF.out, PB.out, DB.out]
            rfl)
          have LL : Hid ((withoutR x.pairs okey).length ≤ 1048576 ∧ ∀ y ∈ withoutR x.pairs okey, y.1.size ≤ 64) := without_fit hlp hkeys.out
          have N4 : Hid (w.heap.size + 1 + 1 + 1 < n ∧ w.heap.size ≤ n) := Lib.hid ⟨by omega, by omega⟩
          clear hWS hsz zwc bWS f2 f3 kb k0 k1' k5 hn x5 z4 fz4 a0 a2 a3 X5 k1 m1 m2 m3 m4 m5 m6 E5 e5 X0 X1 X2 X3 HS S5 B5 BW HW d2 hbz GT hz hT p0 p4
          go_region_held3 (fun W => (W.cell? ⟨w.heap.size, 0, none⟩ = some (.int .u64 g.mask) ∧ W.cell? ⟨w.heap.size, 1, none⟩ = some (.slice (some ⟨b, 0, none⟩) g.maps.length c) ∧ W.cell? ⟨w.heap.size, 2, none⟩ = some (.slice D g.walks.length d) ∧ W.cell? ⟨w.heap.size + 1, 2, none⟩ = some (.string okey) ∧ W.cell? ⟨w5.heap.size, 0, none⟩ = some (.int .i64 0) ∧ W.cell? ⟨w5.heap.size, 1, none⟩ = some (.bool f.isSome) ∧ W.cell? ⟨w5.heap.size, 2, none⟩ = some (.int .u64 (f.getD 0)) ∧ W.cell? ⟨w5.heap.size, 3, none⟩ = some (.string ⟨#[]⟩) ∧ W.cell? ⟨w5.heap.size, 4, none⟩ = some (.int .i64 1) ∧ W.cell? ⟨w5.heap.size, 5, none⟩ = some (.int .i64 0) ∧ W.cell? ⟨w5.heap.size, 6, none⟩ = some (.int .i64 0) ∧ W.cell? ⟨w5.heap.size, 7, none⟩ = some (.bool false))) ((refine KEEP.out _ ?_; (repeat' (first | (with_reducible exact KA7.out) | (with_reducible exact KA6.out) | (with_reducible exact KA0.out) | (with_reducible refine KeyAt.drew ?_) | (with_reducible refine KeyAt.res2 ?_ _ _) | (with_reducible refine KeyAt.res3 ?_ _ _))))) (first | ((have hx := P6); clear hx; go_at_call 52; (refine (rset_any (OldNew T w n) _ (some ⟨b, 0, none⟩) D c d g ?hf k hk _ _ (withoutR x.pairs okey) ?hl LL.out.1 LL.out.2).mono ?_); (case hf => exact H.out.old (by (refine KeyAt.below (n := n) (q := w5.heap.size) (o0 := (.cells #[.int .u64 g.mask, .slice (some ⟨b, 0, none⟩) g.maps.length c, .slice D g.walks.length d] 72 (0, 0))) (o1 := (.cells #[.int .i64 okind, .int .i64 ohandle, .string okey, .int .u64 ovalue, .int .u64 oexpect] 60 (0, 0))) (o5 := (.cells #[.int .i64 0, .bool f.isSome, .int .u64 (f.getD 0), .string ⟨#[]⟩, .int .i64 1, .int .i64 0, .int .i64 0, .bool false] 45 (0, 0))) ?_; (repeat' (first | (with_reducible exact KA7.out) | (with_reducible exact KA6.out) | (with_reducible exact KA0.out) | (with_reducible refine KeyAt.drew ?_) | (with_reducible refine KeyAt.res2 ?_ _ _) | (with_reducible refine KeyAt.res3 ?_ _ _))))) n); (case hl => (repeat' (first | (with_reducible exact P6.out) | (with_reducible refine PrAt.store ?_ ?_ ?_ _) | (simp only []; have hx := N4.out; omega)))); rintro e w7 ⟨A7, c7, he, hf7, hb7⟩; (simp only [rfamV] at he); subst he; (have KA7 := Lib.hid (KeyAt.call (by (repeat' (first | (with_reducible exact KA7.out) | (with_reducible exact KA6.out) | (with_reducible exact KA0.out) | (with_reducible refine KeyAt.drew ?_) | (with_reducible refine KeyAt.res2 ?_ _ _) | (with_reducible refine KeyAt.res3 ?_ _ _))) : KeyAt w n w5.heap.size (.cells #[.int .u64 g.mask, .slice (some ⟨b, 0, none⟩) g.maps.length c, .slice D g.walks.length d] 72 (0, 0)) (.cells #[.int .i64 okind, .int .i64 ohandle, .string okey, .int .u64 ovalue, .int .u64 oexpect] 60 (0, 0)) (.cells #[.int .i64 0, .bool f.isSome, .int .u64 (f.getD 0), .string ⟨#[]⟩, .int .i64 1, .int .i64 0, .int .i64 0, .bool false] 45 (0, 0)) _) hb7)); (obtain ⟨c4, c5, g4, g5⟩ := key_cells hb7 (by (repeat' (first | (with_reducible exact KA7.out) | (with_reducible exact KA6.out) | (with_reducible exact KA0.out) | (with_reducible refine KeyAt.drew ?_) | (with_reducible refine KeyAt.res2 ?_ _ _) | (with_reducible refine KeyAt.res3 ?_ _ _))) : KeyAt w n w5.heap.size (.cells #[.int .u64 g.mask, .slice (some ⟨b, 0, none⟩) g.maps.length c, .slice D g.walks.length d] 72 (0, 0)) (.cells #[.int .i64 okind, .int .i64 ohandle, .string okey, .int .u64 ovalue, .int .u64 oexpect] 60 (0, 0)) (.cells #[.int .i64 0, .bool f.isSome, .int .u64 (f.getD 0), .string ⟨#[]⟩, .int .i64 1, .int .i64 0, .int .i64 0, .bool false] 45 (0, 0)) _)); (have F7 := Lib.hid (hf7.new (KeyAt.size (by (repeat' (first | (with_reducible exact KA7.out) | (with_reducible exact KA6.out) | (with_reducible exact KA0.out) | (with_reducible refine KeyAt.drew ?_) | (with_reducible refine KeyAt.res2 ?_ _ _) | (with_reducible refine KeyAt.res3 ?_ _ _))) : KeyAt w n w5.heap.size (.cells #[.int .u64 g.mask, .slice (some ⟨b, 0, none⟩) g.maps.length c, .slice D g.walks.length d] 72 (0, 0)) (.cells #[.int .i64 okind, .int .i64 ohandle, .string okey, .int .u64 ovalue, .int .u64 oexpect] 60 (0, 0)) (.cells #[.int .i64 0, .bool f.isSome, .int .u64 (f.getD 0), .string ⟨#[]⟩, .int .i64 1, .int .i64 0, .int .i64 0, .bool false] 45 (0, 0)) _)))); clear hf7 hb7) | ((have hx := KA0); clear hx; go_at_call 68; (refine (without_any T _ u cu x.pairs ?hp hlp okey).mono ?_); (case hp => exact C3.out.keep (Kept.of_below (by (refine KeyAt.below (n := n) (q := w5.heap.size) (o0 := (.cells #[.int .u64 g.mask, .slice (some ⟨b, 0, none⟩) g.maps.length c, .slice D g.walks.length d] 72 (0, 0))) (o1 := (.cells #[.int .i64 okind, .int .i64 ohandle, .string okey, .int .u64 ovalue, .int .u64 oexpect] 60 (0, 0))) (o5 := (.cells #[.int .i64 0, .bool f.isSome, .int .u64 (f.getD 0), .string ⟨#[]⟩, .int .i64 1, .int .i64 0, .int .i64 0, .bool false] 45 (0, 0))) ?_; (repeat' (first | (with_reducible exact KA7.out) | (with_reducible exact KA6.out) | (with_reducible exact KA0.out) | (with_reducible refine KeyAt.drew ?_) | (with_reducible refine KeyAt.res2 ?_ _ _) | (with_reducible refine KeyAt.res3 ?_ _ _))))))); rintro e w6 ⟨Al, cl, he, hown, hb6⟩; subst he; (have KA6 := Lib.hid (KeyAt.call (by (repeat' (first | (with_reducible exact KA7.out) | (with_reducible exact KA6.out) | (with_reducible exact KA0.out) | (with_reducible refine KeyAt.drew ?_) | (with_reducible refine KeyAt.res2 ?_ _ _) | (with_reducible refine KeyAt.res3 ?_ _ _))) : KeyAt w n w5.heap.size (.cells #[.int .u64 g.mask, .slice (some ⟨b, 0, none⟩) g.maps.length c, .slice D g.walks.length d] 72 (0, 0)) (.cells #[.int .i64 okind, .int .i64 ohandle, .string okey, .int .u64 ovalue, .int .u64 oexpect] 60 (0, 0)) (.cells #[.int .i64 0, .bool f.isSome, .int .u64 (f.getD 0), .string ⟨#[]⟩, .int .i64 1, .int .i64 0, .int .i64 0, .bool false] 45 (0, 0)) _) hb6)); (obtain ⟨c2, c3, g2, g3⟩ := key_cells hb6 (by (repeat' (first | (with_reducible exact KA7.out) | (with_reducible exact KA6.out) | (with_reducible exact KA0.out) | (with_reducible refine KeyAt.drew ?_) | (with_reducible refine KeyAt.res2 ?_ _ _) | (with_reducible refine KeyAt.res3 ?_ _ _))) : KeyAt w n w5.heap.size (.cells #[.int .u64 g.mask, .slice (some ⟨b, 0, none⟩) g.maps.length c, .slice D g.walks.length d] 72 (0, 0)) (.cells #[.int .i64 okind, .int .i64 ohandle, .string okey, .int .u64 ovalue, .int .u64 oexpect] 60 (0, 0)) (.cells #[.int .i64 0, .bool f.isSome, .int .u64 (f.getD 0), .string ⟨#[]⟩, .int .i64 1, .int .i64 0, .int .i64 0, .bool false] 45 (0, 0)) _)); (have P6 := Lib.hid ((prAt_of_row hown rfl).new (T := T) (w := w) (n := n) (KeyAt.size (by (repeat' (first | (with_reducible exact KA7.out) | (with_reducible exact KA6.out) | (with_reducible exact KA0.out) | (with_reducible refine KeyAt.drew ?_) | (with_reducible refine KeyAt.res2 ?_ _ _) | (with_reducible refine KeyAt.res3 ?_ _ _))) : KeyAt w n w5.heap.size (.cells #[.int .u64 g.mask, .slice (some ⟨b, 0, none⟩) g.maps.length c, .slice D g.walks.length d] 72 (0, 0)) (.cells #[.int .i64 okind, .int .i64 ohandle, .string okey, .int .u64 ovalue, .int .u64 oexpect] 60 (0, 0)) (.cells #[.int .i64 0, .bool f.isSome, .int .u64 (f.getD 0), .string ⟨#[]⟩, .int .i64 1, .int .i64 0, .int .i64 0, .bool false] 45 (0, 0)) _)))); clear hown hb6))
          all_goals
            go_wp2_with fail
            try simp only [Exit.inBlock, Exit.then]
            refine bodyPost_ret (v := .tuple #[rfamV (setM g k (withoutR x.pairs okey)) A7 c7 D d, .agg ({ found := f.isSome, value := f.getD 0, count := 1 } : ResD).cells]) (by simp [results, Tryz.results54, go_sem, rfamV, ResD.cells, r0, r1, r2, t0, t1, t2, t3, t4, t5, t6, t7, c2, c3, c4, c5]) rfl ?_
            refine keyed_new (n := n) KK.out ?_ N4.out.2 ?_
            · repeat' (first | (with_reducible exact F7.out) | (with_reducible refine RFamAt.store ?_ ?_ ?_ _) | (simp only []; have hx := N4.out; omega))
            · (refine KeyAt.below (n := n) (q := w5.heap.size) (o0 := (.cells #[.int .u64 g.mask, .slice (some ⟨b, 0, none⟩) g.maps.length c, .slice D g.walks.length d] 72 (0, 0))) (o1 := (.cells #[.int .i64 okind, .int .i64 ohandle, .string okey, .int .u64 ovalue, .int .u64 oexpect] 60 (0, 0))) (o5 := (.cells #[.int .i64 0, .bool f.isSome, .int .u64 (f.getD 0), .string ⟨#[]⟩, .int .i64 1, .int .i64 0, .int .i64 0, .bool false] 45 (0, 0))) ?_; (repeat' (first | (with_reducible exact KA7.out) | (with_reducible exact KA6.out) | (with_reducible exact KA0.out) | (with_reducible refine KeyAt.drew ?_) | (with_reducible refine KeyAt.res2 ?_ _ _) | (with_reducible refine KeyAt.res3 ?_ _ _))))
        | false =>
          have z4 : wc.cell? ⟨w5.heap.size, 4, none⟩ = some (.int .i64 0) := blk_cell X5.out 4
          have fz4 := rblk_frozen X5.out 4
          have z0 : wc.cell? ⟨w5.heap.size, 0, none⟩ = some (.int .i64 0) := blk_cell X5.out 0
          have z1 : wc.cell? ⟨w5.heap.size, 1, none⟩ = some (.bool f.isSome) := blk_cell X5.out 1
          have z2 : wc.cell? ⟨w5.heap.size, 2, none⟩ = some (.int .u64 (f.getD 0)) := blk_cell X5.out 2
          have z3 : wc.cell? ⟨w5.heap.size, 3, none⟩ = some (.string ⟨#[]⟩) := blk_cell X5.out 3
          have z5 : wc.cell? ⟨w5.heap.size, 5, none⟩ = some (.int .i64 0) := blk_cell X5.out 5
          have z6 : wc.cell? ⟨w5.heap.size, 6, none⟩ = some (.int .i64 0) := blk_cell X5.out 6
          have z7 : wc.cell? ⟨w5.heap.size, 7, none⟩ = some (.bool false) := blk_cell X5.out 7
          have g0 : wc.cell? ⟨w.heap.size, 0, none⟩ = some (.int .u64 g.mask) := blk_cell a0.out 0
          have g1 : wc.cell? ⟨w.heap.size, 1, none⟩ = some (.slice (some ⟨b, 0, none⟩) g.maps.length c) := blk_cell a0.out 1
          have g2 : wc.cell? ⟨w.heap.size, 2, none⟩ = some (.slice D g.walks.length d) := blk_cell a0.out 2
          have r0 : wc.cell? ⟨w.heap.size + 1 + 1, 0, none⟩ = some (.int .u64 0) := blk_cell a2.out 0
          have r1 : wc.cell? ⟨w.heap.size + 1 + 1, 1, none⟩ = some (.slice none 0 0) := blk_cell a2.out 1
          have r2 : wc.cell? ⟨w.heap.size + 1 + 1, 2, none⟩ = some (.slice none 0 0) := blk_cell a2.out 2
          have fr0 := rblk_frozen a2.out 0
          have fr1 := rblk_frozen a2.out 1
          have fr2 := rblk_frozen a2.out 2
          have t0 : wc.cell? ⟨w.heap.size + 1 + 1 + 1, 0, none⟩ = some (.int .i64 0) := blk_cell a3.out 0
          have t1 : wc.cell? ⟨w.heap.size + 1 + 1 + 1, 1, none⟩ = some (.bool false) := blk_cell a3.out 1
          have t2 : wc.cell? ⟨w.heap.size + 1 + 1 + 1, 2, none⟩ = some (.int .u64 0) := blk_cell a3.out 2
          have t3 : wc.cell? ⟨w.heap.size + 1 + 1 + 1, 3, none⟩ = some (.string ⟨#[]⟩) := blk_cell a3.out 3
          have t4 : wc.cell? ⟨w.heap.size + 1 + 1 + 1, 4, none⟩ = some (.int .i64 0) := blk_cell a3.out 4
          have t5 : wc.cell? ⟨w.heap.size + 1 + 1 + 1, 5, none⟩ = some (.int .i64 0) := blk_cell a3.out 5
          have t6 : wc.cell? ⟨w.heap.size + 1 + 1 + 1, 6, none⟩ = some (.int .i64 0) := blk_cell a3.out 6
          have t7 : wc.cell? ⟨w.heap.size + 1 + 1 + 1, 7, none⟩ = some (.bool false) := blk_cell a3.out 7
          have ft0 := rblk_frozen a3.out 0
          have ft1 := rblk_frozen a3.out 1
          have ft2 := rblk_frozen a3.out 2
          have ft3 := rblk_frozen a3.out 3
          have ft4 := rblk_frozen a3.out 4
          have ft5 := rblk_frozen a3.out 5
          have ft6 := rblk_frozen a3.out 6
          have ft7 := rblk_frozen a3.out 7
          have KK := Lib.hid (show keyedR g k x ⟨okind, ohandle, okey, ovalue, oexpect⟩ = (g, { found := f.isSome, value := f.getD 0 }) by
            unfold keyedR
            simp only [HF.out, PB.out, DB.out]
            rfl)
          go_wp2_with fail
          go_region
          all_goals
            go_wp2_with fail
            try simp only [Exit.inBlock, Exit.then]
            refine bodyPost_ret (v := .tuple #[rfamV g (some ⟨b, 0, none⟩) c D d, .agg ({ found := f.isSome, value := f.getD 0 } : ResD).cells]) (by simp [results, Tryz.results54, go_sem, rfamV, ResD.cells, r0, r1, r2, t0, t1, t2, t3, t4, t5, t6, t7]) rfl ?_
            refine keyed_same KK.out H.out ?_
            repeat' (first | (with_reducible exact BW.out) | (with_reducible apply Below.drew) | (with_reducible apply Below.setCell) | (show _ ≤ _; simp only []; omega))
end Go.Proofs.YtbmoehndnbbhcaaGreatDoor
