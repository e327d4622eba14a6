/- The walk of the reference's Apply: an iterator's next pair. The reference's Apply, whole. -/
import Derived.Test.YtbmoehndnbbhcaaGreatDoorMRApD
import Derived.Deep.RegionHeld3
import Derived.Test.YtbmoehndnbbhcaaGreatDoorRApC
namespace Go.Proofs.YtbmoehndnbbhcaaGreatDoor
set_option linter.unusedVariables false
set_option linter.unusedSimpArgs false
open Go Go.RowKit Go.MapKept
theorem RFamAt.drewF {T : Nat → Prop} {w : World} {A D : Option Addr} {g : RFam} (h : RFamAt T w A D g) : RFamAt T w.drew A D g := h.keep (kept_drew T w)
def bumpW (p : Int × IterD) : Int × IterD := (p.1, { p.2 with pos := p.2.pos + 1 })
theorem wk_set (ws : List (Int × IterD)) (j : Nat) (x : Int × IterD) (hx : ws[j]? = some x) : (ws.flatMap wkC).set (j * 4 + 3) (.int .i64 (x.2.pos + 1)) = (ws.modify j bumpW).flatMap wkC := by
  induction ws generalizing j with
  | nil => simp at hx
  | cons y r ih =>
    have e : (wkC y).length = 4 := rfl
    cases j with
    | zero =>
      simp only [List.getElem?_cons_zero, Option.some.injEq] at hx
      subst hx
      rw [List.flatMap_cons, List.modify_zero_cons, List.flatMap_cons, List.set_append_left _ _ (by rw [e]; omega)]
      rfl
    | succ j =>
      rw [List.flatMap_cons, List.modify_succ_cons, List.flatMap_cons, List.set_append_right _ _ (by rw [e]; omega), e, show (j + 1) * 4 + 3 - 4 = j * 4 + 3 by omega, ih j (by simpa using hx)]
theorem RFit.next {g : RFam} (h : RFit g) (j : Nat) {x : Int × IterD} (hx : g.walks[j]? = some x) (hp : x.2.pos < 1048576) : RFit { g with walks := g.walks.modify j bumpW } := by
  refine ⟨h.m0, h.m1, h.lm, by simp; exact h.lw, h.lp, h.keys, fun p hm => ?_⟩
  have hx0 := h.pos x (List.mem_of_getElem? hx)
  obtain ⟨i, hi, e⟩ := List.getElem_of_mem hm
  rw [List.getElem_modify] at e
  have hi' : i < g.walks.length := by simpa using hi
  by_cases hk : j = i
  · rw [if_pos hk] at e
    subst hk
    have : g.walks[j] = x := Option.some.inj ((List.getElem?_eq_getElem hi').symm.trans hx)
    rw [this] at e
    rw [← e]
    exact ⟨by simp only [bumpW]; omega, by simp only [bumpW]; omega⟩
  · rw [if_neg hk] at e
    exact h.pos p (e ▸ List.getElem_mem hi')
theorem next_fam {T : Nat → Prop} {w w2 w3 w5 : World} {A D : Option Addr} {g : RFam} {g3 c3 j : Nat} {x : Int × IterD} {o : Obj} {v : Value} (hw2 : Below w.heap.size w w2) (hh : RFamAt T w A D g) (hb5 : Below w2.heap.size w2 w5) (hb35 : Below w3.heap.size w3 w5) (hg : w2.heap.size ≤ g3) (hg3 : g3 < w3.heap.size) (hw : w.heap.size < w2.heap.size)
    (hrow : w3.ownsRow w2.heap.size 120 4 (.slice (some ⟨g3, 0, none⟩) g.walks.length c3) g.walks.length (g.walks.flatMap wkC)) (hx : g.walks[j]? = some x) (hp : x.2.pos < 1048576) :
    RFamAt (OldNew T w w2.heap.size) (((w5.setCell ⟨g3, j * 4 + 3, none⟩ (.int .i64 (x.2.pos + 1))).setCell ⟨w.heap.size, 2, none⟩ v).alloc o) A (some ⟨g3, 0, none⟩) { g with walks := g.walks.modify j bumpW } := by
  have hj := (List.getElem?_eq_some_iff.1 hx).1
  have hbE : Below w.heap.size w (((w5.setCell ⟨g3, j * 4 + 3, none⟩ (.int .i64 (x.2.pos + 1))).setCell ⟨w.heap.size, 2, none⟩ v).alloc o) :=
    (((hw2.trans (hb5.mono hw2.size)).setCell (p := ⟨g3, j * 4 + 3, none⟩) (by show _ ≤ g3; omega) _).setCell (p := ⟨w.heap.size, 2, none⟩) (Nat.le_refl _) _).alloc (by have := hw2.size; have := hb5.size; simp [World.setCell]; omega) o
  have hk : Kept (fun b => T b ∧ b < w.heap.size) w _ := Kept.of_below hbE
  refine ⟨(hh.low.maps.keep hk).more fun _ h => Or.inl h, ?_, hh.fit.next j hx hp⟩
  have r5 := rowns_keep hrow (hb35.block g3 hg3)
  have r6 := rowns_set r5 (j * 4 + 3) (by omega) (.int .i64 (x.2.pos + 1))
  rw [wk_set _ _ _ hx] at r6
  have r7 := rowns_keep r6 (w' := (w5.setCell ⟨g3, j * 4 + 3, none⟩ (.int .i64 (x.2.pos + 1))).setCell ⟨w.heap.size, 2, none⟩ v) (Below.heap_setCell _ _ _ _ (by simp only [ne_eq]; omega))
  exact row_walks (r7.alloc o) (by simp) (fun q h1 h2 => Or.inr h1)
theorem nx_world (w5 : World) (g3 a i : Nat) (v u : Value) (o : Obj) (hn : a ≠ g3) : (∀ q, q < w5.heap.size → q ≠ g3 → q ≠ a → (((w5.setCell ⟨g3, i, none⟩ v).setCell ⟨a, 2, none⟩ u).alloc o).heap[q]? = w5.heap[q]?) ∧
    (∀ cs T, a < w5.heap.size → w5.heap[a]? = some (.cells cs T (0, 0)) → (((w5.setCell ⟨g3, i, none⟩ v).setCell ⟨a, 2, none⟩ u).alloc o).heap[a]? = some (.cells (cs.setIfInBounds 2 u) T (0, 0))) ∧
    (((w5.setCell ⟨g3, i, none⟩ v).setCell ⟨a, 2, none⟩ u).alloc o).heap[w5.heap.size]? = some o := by
  have hs : ((w5.setCell ⟨g3, i, none⟩ v).setCell ⟨a, 2, none⟩ u).heap.size = w5.heap.size := by simp [World.setCell]
  refine ⟨fun q h1 h2 h3 => ?_, fun cs T h1 h2 => ?_, ?_⟩
  · exact (Below.heap_alloc _ _ _ (by omega)).trans ((Below.heap_setCell _ _ _ _ h3).trans (Below.heap_setCell _ _ _ _ h2))
  · exact (Below.heap_alloc _ _ _ (by omega)).trans (rblk_set ((Below.heap_setCell _ _ _ _ hn).trans h2) 2 u)
  · rw [← hs]
    exact (heap_alloc _ _).1
set_option maxRecDepth 100000 in
set_option maxHeartbeats 2000000 in
theorem rapply_next (T : Nat → Prop) (w : World) (A D : Option Addr) (c d : Nat) (g : RFam) (h : RFamAt T w A D g) (t i : Int) (ht : -9223372036854775808 ≤ t ∧ t ≤ 9223372036854775807) (hi : -9223372036854775808 ≤ i ∧ i ≤ 9223372036854775807) (o : OpD) (hkey : o.key.size ≤ maxLen) (hd0 : D = none → d = 0) (hz : refusedR g t i o = 0) (h8 : o.kind = 13) (hwk : ∀ p ∈ g.walks, (findM g.maps p.2.number).isSome = true) :
    Calls Tryz.prog 29 #[rfamV g A c D d, .int .i64 t, .int .i64 i, o.val] w (RApPost T w (applyR g t i o)) := by
  obtain ⟨okind, ohandle, okey, ovalue, oexpect⟩ := o
  simp only at h8
  subst h8
  obtain ⟨W0, hW0⟩ : ∃ W0, W0 = keyW w (.cells #[.int .u64 g.mask, .slice A g.maps.length c, .slice D g.walks.length d] 72) (.cells #[.int .i64 13, .int .i64 ohandle, .string okey, .int .u64 ovalue, .int .u64 oexpect] 60) (.cells #[.int .u64 0, .slice none 0 0, .slice none 0 0] 72) (.cells #[.int .i64 0, .bool false, .int .u64 0, .string ⟨#[]⟩, .int .i64 0, .int .i64 0, .int .i64 0, .bool false] 45) := ⟨_, rfl⟩
  have hb0 : Below w.heap.size w W0 := hW0 ▸ keyW_below _ _ _ _ _
  have hs0 : W0.heap.size = w.heap.size + 1 + 1 + 1 + 1 := hW0 ▸ keyW_size _ _ _ _ _
  have hk0 : W0.heap[w.heap.size]? = some (.cells #[.int .u64 g.mask, .slice A g.maps.length c, .slice D g.walks.length d] 72) := hW0 ▸ keyW_0 _ _ _ _ _
  have hk1 : W0.heap[w.heap.size + 1]? = some (.cells #[.int .i64 13, .int .i64 ohandle, .string okey, .int .u64 ovalue, .int .u64 oexpect] 60) := hW0 ▸ keyW_1 _ _ _ _ _
  have hk2 : W0.heap[w.heap.size + 1 + 1]? = some (.cells #[.int .u64 0, .slice none 0 0, .slice none 0 0] 72) := hW0 ▸ keyW_2 _ _ _ _ _
  have hk3 : W0.heap[w.heap.size + 1 + 1 + 1]? = some (.cells #[.int .i64 0, .bool false, .int .u64 0, .string ⟨#[]⟩, .int .i64 0, .int .i64 0, .int .i64 0, .bool false] 45) := hW0 ▸ keyW_3 _ _ _ _ _
  have KE := Lib.hid (fun W (hb : Below W0.heap.size W0 W) => apply_boxes hs0 hk0 hk1 hk2 hk3 hb)
  have H0 := h.below hb0
  have FI : Hid (∀ n W, Below W0.heap.size W0 W → Calls Tryz.prog 51 #[.agg #[.int .u64 g.mask, .slice A g.maps.length c, .slice D g.walks.length d], .int .i64 n] W fun e w' => e = .returned (.int .i64 (idxO (findM g.maps n))) ∧ Below W0.heap.size W0 w') := fun n W hb => (find_any T W A D c d g (H0.below hb) n).mono fun e w' p => lift_below hb p
  have NU : Hid (∀ W, Calls Tryz.prog 50 #[.int .i64 t, .int .i64 i] W fun e w' => e = .returned (.int .i64 (numberOf t i)) ∧ W = w') := fun W => refnum_any t i W ht hi
  have RE := Lib.hid (refused_any T W0 A D c d g H0 t i ht hi ⟨13, ohandle, okey, ovalue, oexpect⟩ hkey)
  have HR := Lib.hid H0
  have HB := Lib.hid (Below.refl W0.heap.size W0)
  have hW1 := hW0
  unfold keyW at hW1
  have HW := Lib.hid hW1
  have B0 := Lib.hid hb0
  have HS := Lib.hid hs0
  have HT := Lib.hid ht
  have HI := Lib.hid hi
  have HM := Lib.hid hkey
  have HH := Lib.hid h
  have HD := Lib.hid hd0
  clear hb0 hs0 hk0 hk1 hk2 hk3 hW0 hW1 H0 h ht hi hkey hd0
  simp only [rfamV, OpD.val] at RE ⊢
  generalize hER : refusedR g t i ⟨13, ohandle, okey, ovalue, oexpect⟩ = er at *
  have ER := Lib.hid hER
  clear hER
  go_enter Tryz.func29, Tryz.ntmps29
  go_upto_region 1 with fail
  rw [← HW.out]
  obtain ⟨x0, x1, x2, x3⟩ := KE.out _ HB.out
  have y0 := fam_cells x0
  have y1 := op_cells x1
  obtain ⟨y00, y01, y02⟩ := y0
  obtain ⟨y10, y11, y12, y13, y14⟩ := y1
  clear x0 x1 x2 x3
  go_wp2_with fail
  refine RE.out.mono ?_
  rintro e w1 ⟨rfl, hb1⟩
  have B1 := Lib.hid hb1
  clear y00 y01 y02 y10 y11 y12 y13 y14 hb1 RE
  subst hz
  have RN := refusedR_none ER.out
  obtain ⟨_, hstr, _, _, _, _⟩ := RN
  have hs := hstr rfl
  simp only at hs
  clear hstr
  obtain ⟨q, hq⟩ : ∃ q, findW g.walks ohandle = some q := by
    cases hf : findW g.walks ohandle with
    | none => rw [hf] at hs; simp [strangerR] at hs
    | some q => exact ⟨q, rfl⟩
  obtain ⟨j, it⟩ := q
  obtain ⟨m, hm1, hm2⟩ := findW_at hq
  have hj := (List.getElem?_eq_some_iff.1 hm1).1
  obtain ⟨q, hfm⟩ := Option.isSome_iff_exists.1 (hwk _ (List.mem_of_getElem? hm1))
  obtain ⟨km, x⟩ := q
  simp only at hfm
  obtain ⟨hx1, hx2⟩ := findM_at hfm
  have hkm := (List.getElem?_eq_some_iff.1 hx1).1
  obtain ⟨b, cs, rfl, hT, hbz, hrow, hcs⟩ := maps_row HH.out.low.maps (by omega)
  obtain ⟨u, cu, c0, c1, c2, hpr⟩ := hrow.each km x hx1
  have cell2 := hcs _ _ c2
  rw [raddr] at cell2
  obtain ⟨bd, rfl, hTd, hbd, hcd⟩ := HH.out.walks (by omega)
  have hps := HH.out.fit.pos _ (List.mem_of_getElem? hm1)
  simp only at hps
  have hlx := HH.out.fit.lp x (List.mem_of_getElem? hx1)
  obtain ⟨ith, inum, ipos⟩ := it
  simp only at hfm hps
  obtain ⟨pn, rfl⟩ : ∃ pn : Nat, ipos = pn := ⟨ipos.toNat, by omega⟩
  have KK := Lib.hid (show applyR g t i ⟨13, ohandle, okey, ovalue, oexpect⟩ = (if (x.pairs.length : Int) ≤ (pn : Int) then (g, {}) else ({ g with walks := g.walks.modify j bumpW }, { found := true, key := (x.pairs[pn]?.getD (⟨#[]⟩, 0)).1, value := (x.pairs[pn]?.getD (⟨#[]⟩, 0)).2 })) by
    unfold applyR
    rw [if_neg (by rw [ER.out]; simp), if_pos rfl]
    unfold nextRef
    simp only [hq, hfm]
    rfl)
  have e7 := Lib.hid (show idxO (findW g.walks ohandle) = (j : Int) by rw [hq]; rfl)
  have FK := Lib.hid (show idxO (findM g.maps inum) = (km : Int) by rw [hfm]; rfl)
  have MX := Lib.hid hm1
  have PX := Lib.hid hpr
  have WS := Lib.hid (wk_cells HH.out.walks _ rfl)
  have hlw := HH.out.fit.lw
  have hlm := HH.out.fit.lm
  have hj0 : (0 : Int) ≤ j := by omega
  have hj1 : (j : Int) < g.walks.length := by omega
  have hk0 : (0 : Int) ≤ km := by omega
  have hk1 : (km : Int) < g.maps.length := by omega
  clear hq hm1 hm2 hfm hx1 hx2 hrow hcs c0 c1 c2 hpr hwk hs hT hTd hcd
  obtain ⟨x0, x1, x2, x3⟩ := KE.out _ B1.out
  obtain ⟨y00, y01, y02⟩ := fam_cells x0
  obtain ⟨y10, y11, y12, y13, y14⟩ := op_cells x1
  clear x0 x1 x2 x3 y13 y14
  go_upto_region 4 with fail
  refine wp_region_class (C := fun W => Below W0.heap.size W0 W) (by kernel_rfl) (by kernel_rfl) B1.out.drew ?_
  clear y00 y01 y02 y10 y11 y12
  repeat (first | go_big_quiet_step (fail) | (refine' wpQuiet_take (by kernel_rfl) (fun W hW => ?_) ?_; rotate_left; (obtain ⟨x0, x1, _, _⟩ := KE.out W hW); (obtain ⟨y0, y1, y2⟩ := fam_cells x0); (obtain ⟨p0, p1, p2, _, _⟩ := op_cells x1); clear x0 x1; go_simp; (first | rfl | (with_reducible exact FI.out _ _ hW) | (with_reducible exact (NU.out W).mono (fun e w' p => ⟨p.1, p.2 ▸ hW⟩))); (simp only [Act.put, List.setIfInBounds_toArray, List.set_cons_zero, List.set_cons_succ])))
  refine wpQuiet_nil ?_
  intro w2 hb2
  have B2 := Lib.hid hb2
  have BW := Lib.hid (B0.out.trans (hb2.mono B0.out.size))
  clear hb2 B1 HB
  obtain ⟨x0, x1, x2, x3⟩ := KE.out _ B2.out
  obtain ⟨y00, y01, y02⟩ := fam_cells x0
  obtain ⟨y10, y11, y12, y13, y14⟩ := op_cells x1
  obtain ⟨r0, r1, r2⟩ := fam_cells x2
  obtain ⟨fr0, fr1, fr2⟩ := fam_free x2
  obtain ⟨t0, t1, t2, t3, t4, t5, t6, t7⟩ := res_cells x3
  obtain ⟨ft0, ft1, ft2, ft3, ft4, ft5, ft6, ft7⟩ := res_free x3
  clear x0 x1 x2 x3
  have zb0 : w.heap.size < w2.heap.size := by have h1 := HS.out; have h2 := B2.out.size; omega
  go_wp2_with (at_builtin; refine stopAt ?_)
  unfold StopAt
  refine wpList_app 70 120 Tryz.underlying70 _ 4 32 walk_info rfl (by decide) rfl _ _ rfl w2.heap.size _ _ _ _ rfl (World.ownsRow_lit w2 #[] 0 (Nat.le_refl _) (by unfold maxLen; omega) rfl) ⟨bd, 0, none⟩ g.walks.length d (g.walks.flatMap wkC) rfl (wk_len _) (src_cells WS.out ?hsrc) (wk_one _) (by simp) (by unfold maxLen; omega) (by omega) ?_
  case hsrc => exact (Below.heap_alloc _ _ _ (Nat.lt_of_lt_of_le hbd BW.out.size)).trans (BW.out.block bd hbd)
  intro a3 c3 w3 ho3 hg3
  simp only [Nat.zero_add, List.nil_append] at ho3
  obtain ⟨g3, c3', hv⟩ := row_some ho3 (by omega)
  simp only [Value.slice.injEq, true_and] at hv
  obtain ⟨rfl, rfl⟩ := hv
  have O3 := Lib.hid ho3
  have hg0 : w2.heap.size ≤ g3 := (row_kind ho3 (g := g3) rfl).1
  have hgl : g3 < w3.heap.size := row_lt ho3 rfl
  have hb3 : Below w2.heap.size w2 w3 := grown_below hg3 (Nat.le_refl _) (fun q hq => by have e : w2.heap.size = q := Option.some.inj hq; omega)
  obtain ⟨_, cur, hcur⟩ := row_kind ho3 (g := g3) rfl
  obtain ⟨gq, hgq, _, _, hc3⟩ := row_walks (T := fun _ => True) ho3 rfl (fun _ _ _ => trivial) (by omega)
  simp only [Option.some.injEq, Addr.mk.injEq, and_true] at hgq
  subst hgq
  obtain ⟨d0, d1, d2, d3⟩ := hc3 j _ MX.out
  simp only at d2 d3
  have RW := Lib.hid hcur
  have L3 := Lib.hid hb3
  have B3 := Lib.hid (B2.out.trans (hb3.mono B2.out.size))
  have D2 := Lib.hid d2
  have D3 := Lib.hid d3
  clear ho3 hg3 hcur hc3 d0 d1 d2 d3 hb3 y00 y01 y02 y10 y11 y12 y13 y14 r0 r1 r2 t0 t1 t2 t3 t4 t5 t6 t7 fr0 fr1 fr2 ft0 ft1 ft2 ft3 ft4 ft5 ft6 ft7
  obtain ⟨x0, x1, x2, x3⟩ := KE.out _ B3.out
  obtain ⟨y00, y01, y02⟩ := fam_cells x0
  obtain ⟨y10, y11, y12, y13, y14⟩ := op_cells x1
  obtain ⟨r0, r1, r2⟩ := fam_cells x2
  obtain ⟨fr0, fr1, fr2⟩ := fam_free x2
  obtain ⟨t0, t1, t2, t3, t4, t5, t6, t7⟩ := res_cells x3
  obtain ⟨ft0, ft1, ft2, ft3, ft4, ft5, ft6, ft7⟩ := res_free x3
  clear x0 x1 x2 x3
  clear r0 r1 r2 t0 t1 t2 t3 t4 t5 t6 t7 fr0 fr1 fr2 ft0 ft1 ft2 ft3 ft4 ft5 ft6 ft7
  go_wp2_with fail
  refine (walk_any T w3 _ _ c d g (HH.out.below (B0.out.trans (B3.out.mono B0.out.size))) ohandle).mono ?_
  rintro e w4 ⟨rfl, hb4⟩
  rw [e7.out]
  have L4 := Lib.hid hb4
  have B4 := Lib.hid (B3.out.trans (hb4.mono B3.out.size))
  clear hb4 y00 y01 y02 y10 y11 y12 y13 y14
  have KX : Hid (∀ W, Below w4.heap.size w4 W → (W.cell? ⟨w.heap.size, 0, none⟩ = some (.int .u64 g.mask) ∧ W.cell? ⟨w.heap.size, 1, none⟩ = some (.slice (some ⟨b, 0, none⟩) g.maps.length c) ∧ W.cell? ⟨w.heap.size, 2, none⟩ = some (.slice (some ⟨bd, 0, none⟩) g.walks.length d)) ∧ W.cell? ⟨g3, j * 4 + 2, none⟩ = some (.int .i64 inum) ∧ W.cell? ⟨g3, j * 4 + 3, none⟩ = some (.int .i64 pn) ∧ W.cell? ⟨b, km * 3 + 2, none⟩ = some (.slice u x.pairs.length cu)) := fun W hb =>
    have hg4 : g3 < w4.heap.size := Nat.lt_of_lt_of_le hgl L4.out.size
    have hW : W.heap[g3]? = w3.heap[g3]? := (hb.block g3 hg4).trans (L4.out.block g3 hgl)
    have hB : Below W0.heap.size W0 W := B4.out.trans (hb.mono B4.out.size)
    ⟨fam_cells (KE.out W hB).1, (World.cell?_of_block (a := ⟨g3, _, none⟩) hW).trans D2.out, (World.cell?_of_block (a := ⟨g3, _, none⟩) hW).trans D3.out, (World.cell?_of_block (a := ⟨b, km * 3 + 2, none⟩) ((B0.out.trans (hB.mono B0.out.size)).block b hbz)).trans cell2⟩
  have F4 : Hid (∀ W, Below w4.heap.size w4 W → Calls Tryz.prog 51 #[.agg #[.int .u64 g.mask, .slice (some ⟨b, 0, none⟩) g.maps.length c, .slice (some ⟨bd, 0, none⟩) g.walks.length d], .int .i64 inum] W fun e w' => e = .returned (.int .i64 km) ∧ Below w4.heap.size w4 w') := fun W hb => (find_any T W _ _ c d g (HH.out.below (B0.out.trans ((B4.out.trans (hb.mono B4.out.size)).mono B0.out.size))) inum).mono fun e w' p => lift_below hb ⟨p.1.trans (by rw [FK.out]), p.2⟩
  go_upto_region 20 with fail
  refine wp_region_class (C := fun W => Below w4.heap.size w4 W) (by kernel_rfl) (by kernel_rfl) (Below.refl _ _).drew ?_
  repeat (first | go_big_quiet_step (fail) | (refine' wpQuiet_take (by kernel_rfl) (fun W hW => ?_) ?_; rotate_left; (obtain ⟨⟨z0, z1, z2⟩, z3, z4, z5⟩ := KX.out W hW); go_simp; (first | rfl | (with_reducible exact F4.out _ hW)); (simp only [Act.put, List.setIfInBounds_toArray, List.set_cons_zero, List.set_cons_succ])))
  refine wpQuiet_nil ?_
  intro w5 hb5
  have L5 := Lib.hid hb5
  have B5 := Lib.hid (B4.out.trans (hb5.mono B4.out.size))
  obtain ⟨⟨y00, y01, y02⟩, z3, z4, z5⟩ := KX.out _ hb5
  clear hb5
  obtain ⟨x0, x1, x2, x3⟩ := KE.out _ B5.out
  obtain ⟨r0, r1, r2⟩ := fam_cells x2
  obtain ⟨fr0, fr1, fr2⟩ := fam_free x2
  obtain ⟨t0, t1, t2, t3, t4, t5, t6, t7⟩ := res_cells x3
  obtain ⟨ft0, ft1, ft2, ft3, ft4, ft5, ft6, ft7⟩ := res_free x3
  have X0 := Lib.hid x0
  have X2 := Lib.hid x2
  have X3 := Lib.hid x3
  clear x0 x1 x2 x3
  by_cases hp : (x.pairs.length : Int) ≤ (pn : Int)
  · have KQ := Lib.hid (KK.out.trans (if_pos hp))
    clear z3 z5
    go_wp2_with fail
    try simp only [Exit.inBlock, Exit.then]
    refine bodyPost_ret (v := .tuple #[rfamV g (some ⟨b, 0, none⟩) c (some ⟨bd, 0, none⟩) d, .agg ({} : ResD).cells]) (by simp [results, Tryz.results29, go_sem, rfamV, ResD.cells, r0, r1, r2, t0, t1, t2, t3, t4, t5, t6, t7]) rfl ?_
    refine rap_same KQ.out HH.out ?_ HD.out
    repeat' (first | (with_reducible exact B0.out.trans (B5.out.mono B0.out.size)) | (with_reducible apply Below.drew) | (with_reducible apply Below.setCell) | (show _ ≤ _; simp only []; omega))
  · have KQ := Lib.hid (KK.out.trans (if_neg hp))
    have hpl : pn < x.pairs.length := by omega
    obtain ⟨y, hy⟩ : ∃ y, x.pairs[pn]? = some y := ⟨_, List.getElem?_eq_getElem hpl⟩
    obtain ⟨bp, hbp, _, hbpz, hcp⟩ := PX.out (by omega)
    subst hbp
    obtain ⟨p0, p1⟩ := hcp pn y hy
    have bb5 := (B0.out.trans (B5.out.mono B0.out.size)).block bp hbpz
    have q0 := (World.cell?_of_block (a := ⟨bp, pn * 2, none⟩) bb5).trans p0
    have q1 := (World.cell?_of_block (a := ⟨bp, pn * 2 + 1, none⟩) bb5).trans p1
    rw [hy] at KQ
    simp only [Option.getD_some] at KQ
    have zg3 : g3 < w5.heap.size := Nat.lt_of_lt_of_le hgl (Nat.le_trans L4.out.size L5.out.size)
    have f3 : w5.frozen? ⟨g3, j * 4 + 3, none⟩ = false := rblk_frozen ((L5.out.block g3 (Nat.lt_of_lt_of_le hgl L4.out.size)).trans ((L4.out.block g3 hgl).trans RW.out)) _
    have f02 : w5.frozen? ⟨w.heap.size, 2, none⟩ = false := (fam_free X0.out).2.2
    have hsW := HS.out
    have hbW := B2.out.size
    have hb5s := B5.out.size
    have n1 : ¬ g3 = w.heap.size := by omega
    have n2 : ¬ w.heap.size = g3 := by omega
    have n3 : ¬ g3 = w5.heap.size := by omega
    have n4 : ¬ w5.heap.size = g3 := by omega
    have n5 : ¬ w.heap.size = w5.heap.size := by omega
    have n6 : ¬ w5.heap.size = w.heap.size := by omega
    have p0i : (0 : Int) ≤ pn := by omega
    have p1i : (pn : Int) < x.pairs.length := by omega
    have zb1 : w.heap.size < w5.heap.size := by omega
    have YY := Lib.hid hy
    clear z3 p0 p1 bb5 hcp hp hy hsW hbW hb5s
    go_upto_region 26 with fail
    obtain ⟨w6, hw6⟩ : ∃ w6, w6 = ((w5.setCell ⟨g3, j * 4 + 3, none⟩ (.int .i64 ((pn : Int) + 1))).setCell ⟨w.heap.size, 2, none⟩ (.slice (some ⟨g3, 0, none⟩) g.walks.length c3)).alloc (.cells #[.string y.1, .int .u64 y.2] 122) := ⟨_, rfl⟩
    rw [← hw6]
    obtain ⟨v1, v2, v3⟩ := nx_world w5 g3 w.heap.size (j * 4 + 3) (.int .i64 ((pn : Int) + 1)) (.slice (some ⟨g3, 0, none⟩) g.walks.length c3) (.cells #[.string y.1, .int .u64 y.2] 122) (by omega)
    rw [← hw6] at v1 v2 v3
    have NF := next_fam (o := .cells #[.string y.1, .int .u64 y.2] 122) (v := .slice (some ⟨g3, 0, none⟩) g.walks.length c3) BW.out HH.out (L3.out.trans ((L4.out.trans (L5.out.mono L4.out.size)).mono L3.out.size)) (L4.out.trans (L5.out.mono L4.out.size)) hg0 hgl zb0 O3.out MX.out (by simp only []; omega)
    simp only at NF
    rw [← hw6] at NF
    have BE : Below w.heap.size w w6 := by rw [hw6]; exact ((((B0.out.trans (B5.out.mono B0.out.size)).setCell (p := ⟨g3, j * 4 + 3, none⟩) (by show _ ≤ g3; omega) _).setCell (p := ⟨w.heap.size, 2, none⟩) (Nat.le_refl _) _).alloc (by simp [World.setCell]; omega) _)
    have hsW := HS.out
    have hbW := B2.out.size
    have hb5s := B5.out.size
    have s0 := v2 _ _ zb1 X0.out
    have s2 := (v1 _ (by omega) (by omega) (by omega)).trans X2.out
    have s3 := (v1 _ (by omega) (by omega) (by omega)).trans X3.out
    have NF2 := Lib.hid NF
    have BE2 := Lib.hid BE
    have K0 : Hid (Off w w6 w6) := Off.refl w w6
    have KY : Hid (∀ W, Off w w6 W → (W.cell? ⟨w.heap.size, 0, none⟩ = some (.int .u64 g.mask) ∧ W.cell? ⟨w.heap.size, 1, none⟩ = some (.slice (some ⟨b, 0, none⟩) g.maps.length c) ∧ W.cell? ⟨w.heap.size, 2, none⟩ = some (.slice (some ⟨g3, 0, none⟩) g.walks.length c3) ∧ W.cell? ⟨w5.heap.size, 0, none⟩ = some (.string y.1) ∧ W.cell? ⟨w5.heap.size, 1, none⟩ = some (.int .u64 y.2))) := fun W h => ⟨h.cell (blk_cell s0 0) (by omega) (by omega), h.cell (blk_cell s0 1) (by omega) (by omega), h.cell (blk_cell s0 2) (by omega) (by omega), h.cell (blk_cell v3 0) (by omega) (by omega), h.cell (blk_cell v3 1) (by omega) (by omega)⟩
    clear y00 y01 y02 z4 z5 q0 q1 f3 f02 NF BE v1 v2 v3 s0 hw6 n1 n2 n3 n4 n5 n6 r0 r1 r2 t0 t1 t2 t3 t4 t5 t6 t7 fr0 fr1 fr2 ft0 ft1 ft2 ft3 ft4 ft5 ft6 ft7
    obtain ⟨r0, r1, r2⟩ := fam_cells s2
    obtain ⟨fr0, fr1, fr2⟩ := fam_free s2
    obtain ⟨t0, t1, t2, t3, t4, t5, t6, t7⟩ := res_cells s3
    obtain ⟨ft0, ft1, ft2, ft3, ft4, ft5, ft6, ft7⟩ := res_free s3
    clear s2 s3 hsW hbW hb5s
    go_region_held3 (fun W => (W.cell? ⟨w.heap.size, 0, none⟩ = some (.int .u64 g.mask) ∧ W.cell? ⟨w.heap.size, 1, none⟩ = some (.slice (some ⟨b, 0, none⟩) g.maps.length c) ∧ W.cell? ⟨w.heap.size, 2, none⟩ = some (.slice (some ⟨g3, 0, none⟩) g.walks.length c3) ∧ W.cell? ⟨w5.heap.size, 0, none⟩ = some (.string y.1) ∧ W.cell? ⟨w5.heap.size, 1, none⟩ = some (.int .u64 y.2))) ((refine KY.out _ ?_; (repeat' (first | (with_reducible exact K0.out) | (with_reducible refine Off.drew ?_) | (with_reducible refine Off.set2 ?_ _ _) | (with_reducible refine Off.set3 ?_ _ _))))) (fail)
    all_goals
      go_wp2_with fail
      try simp only [Exit.inBlock, Exit.then]
      refine bodyPost_ret (v := .tuple #[rfamV { g with walks := g.walks.modify j bumpW } (some ⟨b, 0, none⟩) c (some ⟨g3, 0, none⟩) c3, .agg ({ found := true, key := y.1, value := y.2 } : ResD).cells]) (by simp [results, Tryz.results29, go_sem, rfamV, ResD.cells, r0, r1, r2, t0, t1, t2, t3, t4, t5, t6, t7, List.length_modify]) rfl ?_
      refine rap_new (n := w2.heap.size) KQ.out ?_ BW.out.size ?_ (fun e => by cases e)
      · repeat' (first | (with_reducible exact NF2.out) | (with_reducible refine RFamAt.store ?_ ?_ ?_ _) | (with_reducible refine RFamAt.drewF ?_) | (simp only []; have hx := HS.out; have hy := B2.out.size; omega))
      · repeat' (first | (with_reducible exact BE2.out) | (with_reducible apply Below.drew) | (with_reducible apply Below.setCell) | (show _ ≤ _; simp only []; omega))
end Go.Proofs.YtbmoehndnbbhcaaGreatDoor
namespace Go.Proofs.YtbmoehndnbbhcaaGreatDoor
set_option linter.unusedVariables false
set_option linter.unusedSimpArgs false
open Go Go.RowKit Go.MapKept
/-- room in a family for one operation more -/
structure RRoom (g : RFam) : Prop where
  maps : g.maps.length < 1048576
  walks : g.walks.length < 1048576
  pairs : ∀ x ∈ g.maps, x.pairs.length < 1048576
  back : ∀ p ∈ g.walks, (findM g.maps p.2.number).isSome = true
theorem rapply_any (T : Nat → Prop) (w : World) (A D : Option Addr) (c d : Nat) (g : RFam) (h : RFamAt T w A D g) (t i : Int) (ht : -9223372036854775808 ≤ t ∧ t ≤ 9223372036854775807) (hi : -9223372036854775808 ≤ i ∧ i ≤ 9223372036854775807) (o : OpD) (hkey : o.key.size ≤ maxLen) (hd0 : D = none → d = 0) (room : RRoom g) :
    Calls Tryz.prog 29 #[rfamV g A c D d, .int .i64 t, .int .i64 i, o.val] w (RApPost T w (applyR g t i o)) := by
  by_cases hz : refusedR g t i o = 0
  · obtain ⟨⟨_, k1, k2⟩, _⟩ := refusedR_none hz
    by_cases h7 : o.kind ≤ 7
    · exact rapply_keyed T w A D c d g h t i ht hi o hkey hd0 hz k1 h7 room.pairs
    · have kinds : o.kind = 8 ∨ o.kind = 9 ∨ o.kind = 10 ∨ o.kind = 11 ∨ o.kind = 12 ∨ o.kind = 13 := by omega
      rcases kinds with k | k | k | k | k | k
      · exact rapply_snap8 T w A D c d g h t i ht hi o hkey hd0 hz k room.maps
      · exact rapply_snap9 T w A D c d g h t i ht hi o hkey hd0 hz k room.maps
      · exact rapply_clear T w A D c d g h t i ht hi o hkey hd0 hz k
      · exact rapply_size T w A D c d g h t i ht hi o hkey hd0 hz k
      · exact rapply_iter T w A D c d g h t i ht hi o hkey hd0 hz k room.walks
      · exact rapply_next T w A D c d g h t i ht hi o hkey hd0 hz k room.back
  · exact rapply_ref T w A D c d g h t i ht hi o hkey hd0 hz
end Go.Proofs.YtbmoehndnbbhcaaGreatDoor
