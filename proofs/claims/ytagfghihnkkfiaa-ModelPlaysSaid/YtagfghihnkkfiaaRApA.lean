/- The walk of the reference's Apply: the refusals. -/
import Derived.Test.YtagfghihnkkfiaaRRefu
import Derived.Deep.RegionHeld3
namespace Go.Proofs.Ytagfghihnkkfiaa
set_option linter.unusedVariables false
set_option linter.unusedSimpArgs false
open Go Go.RowKit Go.MapKept
/-- what Apply answers -/
def RApPost (T : Nat → Prop) (w : World) (p : RFam × ResD) (e : Ending) (w' : World) : Prop :=
  ∃ A' c' D' d', e = .returned (.tuple #[rfamV p.1 A' c' D' d', .agg p.2.cells]) ∧ RFamAt (fun b => T b ∨ NewB w w' b) w' A' D' p.1 ∧ Below w.heap.size w w' ∧ (D' = none → d' = 0)
theorem apply_boxes {w W0 W : World} {o0 o1 o2 o3 : Obj} (hs : W0.heap.size = w.heap.size + 1 + 1 + 1 + 1) (h0 : W0.heap[w.heap.size]? = some o0) (h1 : W0.heap[w.heap.size + 1]? = some o1) (h2 : W0.heap[w.heap.size + 1 + 1]? = some o2) (h3 : W0.heap[w.heap.size + 1 + 1 + 1]? = some o3) (hb : Below W0.heap.size W0 W) :
    W.heap[w.heap.size]? = some o0 ∧ W.heap[w.heap.size + 1]? = some o1 ∧ W.heap[w.heap.size + 1 + 1]? = some o2 ∧ W.heap[w.heap.size + 1 + 1 + 1]? = some o3 :=
  ⟨(hb.block _ (by omega)).trans h0, (hb.block _ (by omega)).trans h1, (hb.block _ (by omega)).trans h2, (hb.block _ (by omega)).trans h3⟩
theorem fam_cells {W : World} {k : Nat} {u0 u1 u2 : Value} {T : TypeId} (h : W.heap[k]? = some (.cells #[u0, u1, u2] T (0, 0))) : W.cell? ⟨k, 0, none⟩ = some u0 ∧ W.cell? ⟨k, 1, none⟩ = some u1 ∧ W.cell? ⟨k, 2, none⟩ = some u2 := ⟨blk_cell h 0, blk_cell h 1, blk_cell h 2⟩
theorem op_cells {W : World} {k : Nat} {u0 u1 u2 u3 u4 : Value} {T : TypeId} (h : W.heap[k]? = some (.cells #[u0, u1, u2, u3, u4] T (0, 0))) : W.cell? ⟨k, 0, none⟩ = some u0 ∧ W.cell? ⟨k, 1, none⟩ = some u1 ∧ W.cell? ⟨k, 2, none⟩ = some u2 ∧ W.cell? ⟨k, 3, none⟩ = some u3 ∧ W.cell? ⟨k, 4, none⟩ = some u4 := ⟨blk_cell h 0, blk_cell h 1, blk_cell h 2, blk_cell h 3, blk_cell h 4⟩
theorem fam_free {W : World} {k : Nat} {u0 u1 u2 : Value} {T : TypeId} (h : W.heap[k]? = some (.cells #[u0, u1, u2] T (0, 0))) : W.frozen? ⟨k, 0, none⟩ = false ∧ W.frozen? ⟨k, 1, none⟩ = false ∧ W.frozen? ⟨k, 2, none⟩ = false := ⟨rblk_frozen h 0, rblk_frozen h 1, rblk_frozen h 2⟩
theorem res_cells {W : World} {k : Nat} {u0 u1 u2 u3 u4 u5 u6 u7 : Value} {T : TypeId} (h : W.heap[k]? = some (.cells #[u0, u1, u2, u3, u4, u5, u6, u7] T (0, 0))) : W.cell? ⟨k, 0, none⟩ = some u0 ∧ W.cell? ⟨k, 1, none⟩ = some u1 ∧ W.cell? ⟨k, 2, none⟩ = some u2 ∧ W.cell? ⟨k, 3, none⟩ = some u3 ∧ W.cell? ⟨k, 4, none⟩ = some u4 ∧ W.cell? ⟨k, 5, none⟩ = some u5 ∧ W.cell? ⟨k, 6, none⟩ = some u6 ∧ W.cell? ⟨k, 7, none⟩ = some u7 := ⟨blk_cell h 0, blk_cell h 1, blk_cell h 2, blk_cell h 3, blk_cell h 4, blk_cell h 5, blk_cell h 6, blk_cell h 7⟩
theorem res_free {W : World} {k : Nat} {u0 u1 u2 u3 u4 u5 u6 u7 : Value} {T : TypeId} (h : W.heap[k]? = some (.cells #[u0, u1, u2, u3, u4, u5, u6, u7] T (0, 0))) : W.frozen? ⟨k, 0, none⟩ = false ∧ W.frozen? ⟨k, 1, none⟩ = false ∧ W.frozen? ⟨k, 2, none⟩ = false ∧ W.frozen? ⟨k, 3, none⟩ = false ∧ W.frozen? ⟨k, 4, none⟩ = false ∧ W.frozen? ⟨k, 5, none⟩ = false ∧ W.frozen? ⟨k, 6, none⟩ = false ∧ W.frozen? ⟨k, 7, none⟩ = false := ⟨rblk_frozen h 0, rblk_frozen h 1, rblk_frozen h 2, rblk_frozen h 3, rblk_frozen h 4, rblk_frozen h 5, rblk_frozen h 6, rblk_frozen h 7⟩
theorem rap_same {T : Nat → Prop} {w w' : World} {A D : Option Addr} {c d : Nat} {g : RFam} {r : ResD} {p : RFam × ResD} (hp : p = (g, r)) (h : RFamAt T w A D g) (hb : Below w.heap.size w w') (hd : D = none → d = 0) :
    RApPost T w p (.returned (.tuple #[rfamV g A c D d, .agg r.cells])) w' := by
  subst hp
  exact ⟨A, c, D, d, rfl, (h.below hb).more (fun i hi => Or.inl hi), hb, hd⟩
theorem rap_new {T : Nat → Prop} {w w' : World} {A D : Option Addr} {c d n : Nat} {g : RFam} {r : ResD} {p : RFam × ResD} (hp : p = (g, r)) (h : RFamAt (OldNew T w n) w' A D g) (hn : w.heap.size ≤ n) (hb : Below w.heap.size w w') (hd : D = none → d = 0) :
    RApPost T w p (.returned (.tuple #[rfamV g A c D d, .agg r.cells])) w' := by
  subst hp
  exact ⟨A, c, D, d, rfl, h.done hn, hb, hd⟩
set_option maxRecDepth 100000 in
set_option maxHeartbeats 2000000 in
theorem rapply_ref (T : Nat → Prop) (w : World) (A D : Option Addr) (c d : Nat) (g : RFam) (h : RFamAt T w A D g) (t i : Int) (ht : -9223372036854775808 ≤ t ∧ t ≤ 9223372036854775807) (hi : -9223372036854775808 ≤ i ∧ i ≤ 9223372036854775807) (o : OpD) (hkey : o.key.size ≤ maxLen) (hd0 : D = none → d = 0) (hne : refusedR g t i o ≠ 0) :
    Calls Try.prog 26 #[rfamV g A c D d, .int .i64 t, .int .i64 i, o.val] w (RApPost T w (applyR g t i o)) := by
  obtain ⟨okind, ohandle, okey, ovalue, oexpect⟩ := o
  obtain ⟨W0, hW0⟩ : ∃ W0, W0 = keyW w (.cells #[.int .u64 g.mask, .slice A g.maps.length c, .slice D g.walks.length d] 59) (.cells #[.int .i64 okind, .int .i64 ohandle, .string okey, .int .u64 ovalue, .int .u64 oexpect] 39) (.cells #[.int .u64 0, .slice none 0 0, .slice none 0 0] 59) (.cells #[.int .i64 0, .bool false, .int .u64 0, .string ⟨#[]⟩, .int .i64 0, .int .i64 0, .int .i64 0, .bool false] 35) := ⟨_, rfl⟩
  have hb0 : Below w.heap.size w W0 := hW0 ▸ keyW_below _ _ _ _ _
  have hs0 : W0.heap.size = w.heap.size + 1 + 1 + 1 + 1 := hW0 ▸ keyW_size _ _ _ _ _
  have hk0 : W0.heap[w.heap.size]? = some (.cells #[.int .u64 g.mask, .slice A g.maps.length c, .slice D g.walks.length d] 59) := hW0 ▸ keyW_0 _ _ _ _ _
  have hk1 : W0.heap[w.heap.size + 1]? = some (.cells #[.int .i64 okind, .int .i64 ohandle, .string okey, .int .u64 ovalue, .int .u64 oexpect] 39) := hW0 ▸ keyW_1 _ _ _ _ _
  have hk2 : W0.heap[w.heap.size + 1 + 1]? = some (.cells #[.int .u64 0, .slice none 0 0, .slice none 0 0] 59) := hW0 ▸ keyW_2 _ _ _ _ _
  have hk3 : W0.heap[w.heap.size + 1 + 1 + 1]? = some (.cells #[.int .i64 0, .bool false, .int .u64 0, .string ⟨#[]⟩, .int .i64 0, .int .i64 0, .int .i64 0, .bool false] 35) := hW0 ▸ keyW_3 _ _ _ _ _
  have KE := Lib.hid (fun W (hb : Below W0.heap.size W0 W) => apply_boxes hs0 hk0 hk1 hk2 hk3 hb)
  have H0 := h.below hb0
  have FI : Hid (∀ n W, Below W0.heap.size W0 W → Calls Try.prog 42 #[.agg #[.int .u64 g.mask, .slice A g.maps.length c, .slice D g.walks.length d], .int .i64 n] W fun e w' => e = .returned (.int .i64 (idxO (findM g.maps n))) ∧ Below W0.heap.size W0 w') := fun n W hb => (find_any T W A D c d g (H0.below hb) n).mono fun e w' p => lift_below hb p
  have NU : Hid (∀ W, Calls Try.prog 12 #[.int .i64 t, .int .i64 i] W fun e w' => e = .returned (.int .i64 (numberOf t i)) ∧ W = w') := fun W => refnum_any t i W ht hi
  have RE := Lib.hid (refused_any T W0 A D c d g H0 t i ht hi ⟨okind, ohandle, okey, ovalue, oexpect⟩ hkey)
  have HR := Lib.hid H0
  have HB := Lib.hid (Below.refl W0.heap.size W0)
  have hW1 := hW0
  unfold keyW at hW1
  have HW := Lib.hid hW1
  have B0 := Lib.hid hb0
  have HS := Lib.hid hs0
  have HT := Lib.hid ht
  have HI := Lib.hid hi
  have HM := Lib.hid hkey
  have HH := Lib.hid h
  have HD := Lib.hid hd0
  clear hb0 hs0 hk0 hk1 hk2 hk3 hW0 hW1 H0 h ht hi hkey hd0
  simp only [rfamV, OpD.val] at RE ⊢
  generalize hER : refusedR g t i ⟨okind, ohandle, okey, ovalue, oexpect⟩ = er at *
  have ER := Lib.hid hER
  clear hER
  go_enter Try.func26, Try.ntmps26
  go_upto_region 1 with fail
  rw [← HW.out]
  obtain ⟨x0, x1, x2, x3⟩ := KE.out _ HB.out
  have y0 := fam_cells x0
  have y1 := op_cells x1
  obtain ⟨y00, y01, y02⟩ := y0
  obtain ⟨y10, y11, y12, y13, y14⟩ := y1
  clear x0 x1 x2 x3
  go_wp2_with fail
  refine RE.out.mono ?_
  rintro e w1 ⟨rfl, hb1⟩
  have B1 := Lib.hid hb1
  clear y00 y01 y02 y10 y11 y12 y13 y14 hb1 RE
  have BW := Lib.hid (B0.out.trans (B1.out.mono B0.out.size))
  obtain ⟨x0, x1, x2, x3⟩ := KE.out _ B1.out
  obtain ⟨y00, y01, y02⟩ := fam_cells x0
  obtain ⟨y10, y11, y12, y13, y14⟩ := op_cells x1
  obtain ⟨r0, r1, r2⟩ := fam_cells x2
  obtain ⟨fr0, fr1, fr2⟩ := fam_free x2
  obtain ⟨t0, t1, t2, t3, t4, t5, t6, t7⟩ := res_cells x3
  obtain ⟨ft0, ft1, ft2, ft3, ft4, ft5, ft6, ft7⟩ := res_free x3
  clear x0 x1 x2 x3
  have n0 : (er != 0) = true := by simpa using hne
  have KK := Lib.hid (show applyR g t i ⟨okind, ohandle, okey, ovalue, oexpect⟩ = (g, { err := er }) by unfold applyR; rw [ER.out, if_pos hne])
  clear hne
  go_wp2_with fail
  try simp only [Exit.inBlock, Exit.then]
  refine bodyPost_ret (v := .tuple #[rfamV g A c D d, .agg ({ err := er } : ResD).cells]) (by simp [results, Try.results26, go_sem, rfamV, ResD.cells, r0, r1, r2, t0, t1, t2, t3, t4, t5, t6, t7]) rfl ?_
  refine rap_same KK.out HH.out ?_ HD.out
  repeat' (first | (with_reducible exact BW.out) | (with_reducible apply Below.drew) | (with_reducible apply Below.setCell) | (show _ ≤ _; simp only []; omega))
end Go.Proofs.Ytagfghihnkkfiaa
