/- The walk of the reference's Apply: clear, keys, size. -/
import Derived.Test.YtagfghihnkkfiaaRApB
import Derived.Deep.RegionHeld3
namespace Go.Proofs.Ytagfghihnkkfiaa
set_option linter.unusedVariables false
set_option linter.unusedSimpArgs false
open Go Go.RowKit Go.MapKept
/-- the boxes of the results alone have changed -/
def Off (w w2 W : World) : Prop := ∀ q, q ≠ w.heap.size + 1 + 1 → q ≠ w.heap.size + 1 + 1 + 1 → W.heap[q]? = w2.heap[q]?
theorem Off.refl (w w2 : World) : Off w w2 w2 := fun _ _ _ => rfl
theorem Off.drew {w w2 W : World} (h : Off w w2 W) : Off w w2 W.drew := h
theorem Off.set2 {w w2 W : World} (h : Off w w2 W) (i : Nat) (v : Value) : Off w w2 (W.setCell ⟨w.heap.size + 1 + 1, i, none⟩ v) := fun q h2 h3 => (Below.heap_setCell _ _ _ _ h2).trans (h q h2 h3)
theorem Off.set3 {w w2 W : World} (h : Off w w2 W) (i : Nat) (v : Value) : Off w w2 (W.setCell ⟨w.heap.size + 1 + 1 + 1, i, none⟩ v) := fun q h2 h3 => (Below.heap_setCell _ _ _ _ h3).trans (h q h2 h3)
theorem Off.cell {w w2 W : World} (h : Off w w2 W) {q i : Nat} {v : Value} (hc : w2.cell? ⟨q, i, none⟩ = some v) (h2 : q ≠ w.heap.size + 1 + 1) (h3 : q ≠ w.heap.size + 1 + 1 + 1) : W.cell? ⟨q, i, none⟩ = some v := (World.cell?_of_block (a := ⟨q, i, none⟩) (h q h2 h3)).trans hc
set_option maxRecDepth 100000 in
set_option maxHeartbeats 2000000 in
theorem rapply_clear (T : Nat → Prop) (w : World) (A D : Option Addr) (c d : Nat) (g : RFam) (h : RFamAt T w A D g) (t i : Int) (ht : -9223372036854775808 ≤ t ∧ t ≤ 9223372036854775807) (hi : -9223372036854775808 ≤ i ∧ i ≤ 9223372036854775807) (o : OpD) (hkey : o.key.size ≤ maxLen) (hd0 : D = none → d = 0) (hz : refusedR g t i o = 0) (h8 : o.kind = 10) :
    Calls Try.prog 26 #[rfamV g A c D d, .int .i64 t, .int .i64 i, o.val] w (RApPost T w (applyR g t i o)) := by
  obtain ⟨okind, ohandle, okey, ovalue, oexpect⟩ := o
  simp only at h8
  subst h8
  obtain ⟨W0, hW0⟩ : ∃ W0, W0 = keyW w (.cells #[.int .u64 g.mask, .slice A g.maps.length c, .slice D g.walks.length d] 59) (.cells #[.int .i64 10, .int .i64 ohandle, .string okey, .int .u64 ovalue, .int .u64 oexpect] 39) (.cells #[.int .u64 0, .slice none 0 0, .slice none 0 0] 59) (.cells #[.int .i64 0, .bool false, .int .u64 0, .string ⟨#[]⟩, .int .i64 0, .int .i64 0, .int .i64 0, .bool false] 35) := ⟨_, rfl⟩
  have hb0 : Below w.heap.size w W0 := hW0 ▸ keyW_below _ _ _ _ _
  have hs0 : W0.heap.size = w.heap.size + 1 + 1 + 1 + 1 := hW0 ▸ keyW_size _ _ _ _ _
  have hk0 : W0.heap[w.heap.size]? = some (.cells #[.int .u64 g.mask, .slice A g.maps.length c, .slice D g.walks.length d] 59) := hW0 ▸ keyW_0 _ _ _ _ _
  have hk1 : W0.heap[w.heap.size + 1]? = some (.cells #[.int .i64 10, .int .i64 ohandle, .string okey, .int .u64 ovalue, .int .u64 oexpect] 39) := hW0 ▸ keyW_1 _ _ _ _ _
  have hk2 : W0.heap[w.heap.size + 1 + 1]? = some (.cells #[.int .u64 0, .slice none 0 0, .slice none 0 0] 59) := hW0 ▸ keyW_2 _ _ _ _ _
  have hk3 : W0.heap[w.heap.size + 1 + 1 + 1]? = some (.cells #[.int .i64 0, .bool false, .int .u64 0, .string ⟨#[]⟩, .int .i64 0, .int .i64 0, .int .i64 0, .bool false] 35) := hW0 ▸ keyW_3 _ _ _ _ _
  have KE := Lib.hid (fun W (hb : Below W0.heap.size W0 W) => apply_boxes hs0 hk0 hk1 hk2 hk3 hb)
  have H0 := h.below hb0
  have FI : Hid (∀ n W, Below W0.heap.size W0 W → Calls Try.prog 42 #[.agg #[.int .u64 g.mask, .slice A g.maps.length c, .slice D g.walks.length d], .int .i64 n] W fun e w' => e = .returned (.int .i64 (idxO (findM g.maps n))) ∧ Below W0.heap.size W0 w') := fun n W hb => (find_any T W A D c d g (H0.below hb) n).mono fun e w' p => lift_below hb p
  have NU : Hid (∀ W, Calls Try.prog 12 #[.int .i64 t, .int .i64 i] W fun e w' => e = .returned (.int .i64 (numberOf t i)) ∧ W = w') := fun W => refnum_any t i W ht hi
  have RE := Lib.hid (refused_any T W0 A D c d g H0 t i ht hi ⟨10, ohandle, okey, ovalue, oexpect⟩ hkey)
  have HR := Lib.hid H0
  have HB := Lib.hid (Below.refl W0.heap.size W0)
  have hW1 := hW0
  unfold keyW at hW1
  have HW := Lib.hid hW1
  have B0 := Lib.hid hb0
  have HS := Lib.hid hs0
  have HT := Lib.hid ht
  have HI := Lib.hid hi
  have HM := Lib.hid hkey
  have HH := Lib.hid h
  have HD := Lib.hid hd0
  clear hb0 hs0 hk0 hk1 hk2 hk3 hW0 hW1 H0 h ht hi hkey hd0
  simp only [rfamV, OpD.val] at RE ⊢
  generalize hER : refusedR g t i ⟨10, ohandle, okey, ovalue, oexpect⟩ = er at *
  have ER := Lib.hid hER
  clear hER
  go_enter Try.func26, Try.ntmps26
  go_upto_region 1 with fail
  rw [← HW.out]
  obtain ⟨x0, x1, x2, x3⟩ := KE.out _ HB.out
  have y0 := fam_cells x0
  have y1 := op_cells x1
  obtain ⟨y00, y01, y02⟩ := y0
  obtain ⟨y10, y11, y12, y13, y14⟩ := y1
  clear x0 x1 x2 x3
  go_wp2_with fail
  refine RE.out.mono ?_
  rintro e w1 ⟨rfl, hb1⟩
  have B1 := Lib.hid hb1
  clear y00 y01 y02 y10 y11 y12 y13 y14 hb1 RE
  subst hz
  have RN := refusedR_none ER.out
  obtain ⟨⟨n0, _, _⟩, _, hsome, hk7, _, _⟩ := RN
  obtain ⟨q, hq⟩ := Option.isSome_iff_exists.1 (hsome (by simp))
  obtain ⟨k, x⟩ := q
  simp only at hq n0 hk7
  obtain ⟨hm1, hm2⟩ := findM_at hq
  have hk := (List.getElem?_eq_some_iff.1 hm1).1
  obtain ⟨b, cs, rfl, hT, hbz, hrow, hcs⟩ := maps_row HH.out.low.maps (by omega)
  obtain ⟨u, cu, c0, c1, c2, hpr⟩ := hrow.each k x hm1
  have cell2 := hcs _ _ c2
  rw [raddr] at cell2
  have MX := Lib.hid hm1
  have e7 : idxO (findM g.maps ohandle) = (k : Int) := by rw [hq]; rfl
  have KK := Lib.hid (show applyR g t i ⟨10, ohandle, okey, ovalue, oexpect⟩ = (setM g k [], { found := true }) by
      unfold applyR
      rw [if_neg (by rw [ER.out]; simp), if_neg (by simp), hq]
      rfl)
  have hlm := HH.out.fit.lm
  have hk0 : (0 : Int) ≤ k := by omega
  have hk1 : (k : Int) < g.maps.length := by omega
  generalize hN : numberOf t i = N at *
  clear hN
  have E7 := Lib.hid e7
  clear e7 hq hm1 hm2 hrow hcs hpr c0 c1 c2 hsome n0 hT hk7
  obtain ⟨x0, x1, x2, x3⟩ := KE.out _ B1.out
  obtain ⟨y00, y01, y02⟩ := fam_cells x0
  obtain ⟨y10, y11, y12, y13, y14⟩ := op_cells x1
  clear x0 x1 x2 x3 y13 y14
  go_upto_region 4 with fail
  refine wp_region_class (C := fun W => Below W0.heap.size W0 W) (by kernel_rfl) (by kernel_rfl) B1.out.drew ?_
  clear y00 y01 y02 y10 y11 y12
  repeat (first | go_big_quiet_step (fail) | (refine' wpQuiet_take (by kernel_rfl) (fun W hW => ?_) ?_; rotate_left; (obtain ⟨x0, x1, _, _⟩ := KE.out W hW); (obtain ⟨y0, y1, y2⟩ := fam_cells x0); (obtain ⟨p0, p1, p2, _, _⟩ := op_cells x1); clear x0 x1; go_simp; (first | rfl | (with_reducible exact FI.out _ _ hW) | (with_reducible exact (NU.out W).mono (fun e w' p => ⟨p.1, p.2 ▸ hW⟩))); (simp only [Act.put, List.setIfInBounds_toArray, List.set_cons_zero, List.set_cons_succ])))
  refine wpQuiet_nil ?_
  intro w2 hb2
  have B2 := Lib.hid hb2
  have BW := Lib.hid (B0.out.trans (hb2.mono B0.out.size))
  clear hb2 B1 HB
  obtain ⟨x0, x1, x2, x3⟩ := KE.out _ B2.out
  obtain ⟨y00, y01, y02⟩ := fam_cells x0
  obtain ⟨y10, y11, y12, y13, y14⟩ := op_cells x1
  obtain ⟨r0, r1, r2⟩ := fam_cells x2
  obtain ⟨fr0, fr1, fr2⟩ := fam_free x2
  obtain ⟨t0, t1, t2, t3, t4, t5, t6, t7⟩ := res_cells x3
  obtain ⟨ft0, ft1, ft2, ft3, ft4, ft5, ft6, ft7⟩ := res_free x3
  clear x0 x1 x2 x3
  rw [E7.out]
  have cellx := (World.cell?_of_block (a := ⟨b, k * 3 + 2, none⟩) (BW.out.block b hbz)).trans cell2
  clear cell2 E7
  go_wp2_with fail
  refine (rset_any (OldNew T w w2.heap.size) w2 (some ⟨b, 0, none⟩) D c d g (HH.out.old BW.out _) k hk none 0 [] (fun h0 => absurd h0 (by simp)) (by simp) (by simp)).mono ?_
  rintro e w7 ⟨A7, c7, he, hf7, hb7⟩
  simp only [rfamV, ResD.cells] at he
  subst he
  have B7 := Lib.hid (B2.out.trans (hb7.mono B2.out.size))
  have F7 := Lib.hid (hf7.new (Nat.le_refl _))
  clear hf7 hb7 y00 y01 y02 y10 y11 y12 y13 y14 r0 r1 r2 t0 t1 t2 t3 t4 t5 t6 t7 fr0 fr1 fr2 ft0 ft1 ft2 ft3 ft4 ft5 ft6 ft7
  obtain ⟨x0, x1, x2, x3⟩ := KE.out _ B7.out
  obtain ⟨y00, y01, y02⟩ := fam_cells x0
  obtain ⟨y10, y11, y12, y13, y14⟩ := op_cells x1
  obtain ⟨r0, r1, r2⟩ := fam_cells x2
  obtain ⟨fr0, fr1, fr2⟩ := fam_free x2
  obtain ⟨t0, t1, t2, t3, t4, t5, t6, t7⟩ := res_cells x3
  obtain ⟨ft0, ft1, ft2, ft3, ft4, ft5, ft6, ft7⟩ := res_free x3
  clear x0 x1 x2 x3
  clear y10 y11 y12 y13 y14
  go_wp2_with fail
  try simp only [Exit.inBlock, Exit.then]
  refine bodyPost_ret (v := .tuple #[rfamV (setM g k []) A7 c7 D d, .agg ({ found := true } : ResD).cells]) (by simp [results, Try.results26, go_sem, rfamV, ResD.cells, r0, r1, r2, t0, t1, t2, t3, t4, t5, t6, t7]) rfl ?_
  refine rap_new (n := w2.heap.size) KK.out ?_ BW.out.size ?_ HD.out
  · repeat' (first | (with_reducible refine RFamAt.store ?_ ?_ ?_ _) | (simp only []; have hx := HS.out; have hy := B2.out.size; omega))
    exact F7.out
  · repeat' (first | (with_reducible exact B0.out.trans (B7.out.mono B0.out.size)) | (with_reducible apply Below.drew) | (with_reducible apply Below.setCell) | (show _ ≤ _; simp only []; omega))
set_option maxRecDepth 100000 in
set_option maxHeartbeats 2000000 in
theorem rapply_keyed (T : Nat → Prop) (w : World) (A D : Option Addr) (c d : Nat) (g : RFam) (h : RFamAt T w A D g) (t i : Int) (ht : -9223372036854775808 ≤ t ∧ t ≤ 9223372036854775807) (hi : -9223372036854775808 ≤ i ∧ i ≤ 9223372036854775807) (o : OpD) (hkey : o.key.size ≤ maxLen) (hd0 : D = none → d = 0) (hz : refusedR g t i o = 0) (h1 : 1 ≤ o.kind) (h7 : o.kind ≤ 7) (hroom : ∀ x ∈ g.maps, x.pairs.length < 1048576) :
    Calls Try.prog 26 #[rfamV g A c D d, .int .i64 t, .int .i64 i, o.val] w (RApPost T w (applyR g t i o)) := by
  obtain ⟨okind, ohandle, okey, ovalue, oexpect⟩ := o
  simp only at h1 h7
  obtain ⟨W0, hW0⟩ : ∃ W0, W0 = keyW w (.cells #[.int .u64 g.mask, .slice A g.maps.length c, .slice D g.walks.length d] 59) (.cells #[.int .i64 okind, .int .i64 ohandle, .string okey, .int .u64 ovalue, .int .u64 oexpect] 39) (.cells #[.int .u64 0, .slice none 0 0, .slice none 0 0] 59) (.cells #[.int .i64 0, .bool false, .int .u64 0, .string ⟨#[]⟩, .int .i64 0, .int .i64 0, .int .i64 0, .bool false] 35) := ⟨_, rfl⟩
  have hb0 : Below w.heap.size w W0 := hW0 ▸ keyW_below _ _ _ _ _
  have hs0 : W0.heap.size = w.heap.size + 1 + 1 + 1 + 1 := hW0 ▸ keyW_size _ _ _ _ _
  have hk0 : W0.heap[w.heap.size]? = some (.cells #[.int .u64 g.mask, .slice A g.maps.length c, .slice D g.walks.length d] 59) := hW0 ▸ keyW_0 _ _ _ _ _
  have hk1 : W0.heap[w.heap.size + 1]? = some (.cells #[.int .i64 okind, .int .i64 ohandle, .string okey, .int .u64 ovalue, .int .u64 oexpect] 39) := hW0 ▸ keyW_1 _ _ _ _ _
  have hk2 : W0.heap[w.heap.size + 1 + 1]? = some (.cells #[.int .u64 0, .slice none 0 0, .slice none 0 0] 59) := hW0 ▸ keyW_2 _ _ _ _ _
  have hk3 : W0.heap[w.heap.size + 1 + 1 + 1]? = some (.cells #[.int .i64 0, .bool false, .int .u64 0, .string ⟨#[]⟩, .int .i64 0, .int .i64 0, .int .i64 0, .bool false] 35) := hW0 ▸ keyW_3 _ _ _ _ _
  have KE := Lib.hid (fun W (hb : Below W0.heap.size W0 W) => apply_boxes hs0 hk0 hk1 hk2 hk3 hb)
  have H0 := h.below hb0
  have FI : Hid (∀ n W, Below W0.heap.size W0 W → Calls Try.prog 42 #[.agg #[.int .u64 g.mask, .slice A g.maps.length c, .slice D g.walks.length d], .int .i64 n] W fun e w' => e = .returned (.int .i64 (idxO (findM g.maps n))) ∧ Below W0.heap.size W0 w') := fun n W hb => (find_any T W A D c d g (H0.below hb) n).mono fun e w' p => lift_below hb p
  have NU : Hid (∀ W, Calls Try.prog 12 #[.int .i64 t, .int .i64 i] W fun e w' => e = .returned (.int .i64 (numberOf t i)) ∧ W = w') := fun W => refnum_any t i W ht hi
  have RE := Lib.hid (refused_any T W0 A D c d g H0 t i ht hi ⟨okind, ohandle, okey, ovalue, oexpect⟩ hkey)
  have HR := Lib.hid H0
  have HB := Lib.hid (Below.refl W0.heap.size W0)
  have hW1 := hW0
  unfold keyW at hW1
  have HW := Lib.hid hW1
  have B0 := Lib.hid hb0
  have HS := Lib.hid hs0
  have HT := Lib.hid ht
  have HI := Lib.hid hi
  have HM := Lib.hid hkey
  have HH := Lib.hid h
  have HD := Lib.hid hd0
  clear hb0 hs0 hk0 hk1 hk2 hk3 hW0 hW1 H0 h ht hi hkey hd0
  simp only [rfamV, OpD.val] at RE ⊢
  generalize hER : refusedR g t i ⟨okind, ohandle, okey, ovalue, oexpect⟩ = er at *
  have ER := Lib.hid hER
  clear hER
  go_enter Try.func26, Try.ntmps26
  go_upto_region 1 with fail
  rw [← HW.out]
  obtain ⟨x0, x1, x2, x3⟩ := KE.out _ HB.out
  have y0 := fam_cells x0
  have y1 := op_cells x1
  obtain ⟨y00, y01, y02⟩ := y0
  obtain ⟨y10, y11, y12, y13, y14⟩ := y1
  clear x0 x1 x2 x3
  go_wp2_with fail
  refine RE.out.mono ?_
  rintro e w1 ⟨rfl, hb1⟩
  have B1 := Lib.hid hb1
  clear y00 y01 y02 y10 y11 y12 y13 y14 hb1 RE
  subst hz
  have RN := refusedR_none ER.out
  obtain ⟨⟨n0, _, _⟩, _, hsome, hk7, _, _⟩ := RN
  obtain ⟨q, hq⟩ := Option.isSome_iff_exists.1 (hsome (by simp only [ne_eq]; omega))
  obtain ⟨k, x⟩ := q
  simp only at hq n0 hk7
  obtain ⟨hm1, hm2⟩ := findM_at hq
  have hk := (List.getElem?_eq_some_iff.1 hm1).1
  obtain ⟨b, cs, rfl, hT, hbz, hrow, hcs⟩ := maps_row HH.out.low.maps (by omega)
  obtain ⟨u, cu, c0, c1, c2, hpr⟩ := hrow.each k x hm1
  have cell2 := hcs _ _ c2
  rw [raddr] at cell2
  have MX := Lib.hid hm1
  have e7 : idxO (findM g.maps ohandle) = (k : Int) := by rw [hq]; rfl
  have KK := Lib.hid (show applyR g t i ⟨okind, ohandle, okey, ovalue, oexpect⟩ = keyedR g k x ⟨okind, ohandle, okey, ovalue, oexpect⟩ by
      unfold applyR
      rw [if_neg (by rw [ER.out]; simp), if_neg (by show ¬ okind = 13; omega), hq]
      simp only
      rw [if_neg (by omega), if_neg (by omega), if_neg (by omega), if_neg (by omega)])
  have hlm := HH.out.fit.lm
  have hk0 : (0 : Int) ≤ k := by omega
  have hk1 : (k : Int) < g.maps.length := by omega
  have e13 : (okind == 13) = false := by simp; omega
  have e12 : (okind == 12) = false := by simp; omega
  have e11 : (okind == 11) = false := by simp; omega
  have e10 : (okind == 10) = false := by simp; omega
  have e9 : (okind == 9) = false := by simp; omega
  have e8 : (okind == 8) = false := by simp; omega
  have H17 := Lib.hid (And.intro h1 h7)
  have ROOM := Lib.hid (hroom x (List.mem_of_getElem? MX.out))
  have KEY := Lib.hid (show okey.size ≤ 64 by have := hk7 h7; omega)
  generalize hN : numberOf t i = N at *
  clear hN
  have E7 := Lib.hid e7
  clear e7 hq hm1 hm2 hrow hcs hpr c0 c1 c2 hsome n0 hT hk7 hroom h1 h7
  obtain ⟨x0, x1, x2, x3⟩ := KE.out _ B1.out
  obtain ⟨y00, y01, y02⟩ := fam_cells x0
  obtain ⟨y10, y11, y12, y13, y14⟩ := op_cells x1
  clear x0 x1 x2 x3 y13 y14
  go_upto_region 4 with fail
  refine wp_region_class (C := fun W => Below W0.heap.size W0 W) (by kernel_rfl) (by kernel_rfl) B1.out.drew ?_
  clear y00 y01 y02 y10 y11 y12
  repeat (first | go_big_quiet_step (fail) | (refine' wpQuiet_take (by kernel_rfl) (fun W hW => ?_) ?_; rotate_left; (obtain ⟨x0, x1, _, _⟩ := KE.out W hW); (obtain ⟨y0, y1, y2⟩ := fam_cells x0); (obtain ⟨p0, p1, p2, _, _⟩ := op_cells x1); clear x0 x1; go_simp; (first | rfl | (with_reducible exact FI.out _ _ hW) | (with_reducible exact (NU.out W).mono (fun e w' p => ⟨p.1, p.2 ▸ hW⟩))); (simp only [Act.put, List.setIfInBounds_toArray, List.set_cons_zero, List.set_cons_succ])))
  refine wpQuiet_nil ?_
  intro w2 hb2
  have B2 := Lib.hid hb2
  have BW := Lib.hid (B0.out.trans (hb2.mono B0.out.size))
  clear hb2 B1 HB
  obtain ⟨x0, x1, x2, x3⟩ := KE.out _ B2.out
  obtain ⟨y00, y01, y02⟩ := fam_cells x0
  obtain ⟨y10, y11, y12, y13, y14⟩ := op_cells x1
  obtain ⟨r0, r1, r2⟩ := fam_cells x2
  obtain ⟨fr0, fr1, fr2⟩ := fam_free x2
  obtain ⟨t0, t1, t2, t3, t4, t5, t6, t7⟩ := res_cells x3
  obtain ⟨ft0, ft1, ft2, ft3, ft4, ft5, ft6, ft7⟩ := res_free x3
  clear x0 x1 x2 x3
  rw [E7.out]
  have cellx := (World.cell?_of_block (a := ⟨b, k * 3 + 2, none⟩) (BW.out.block b hbz)).trans cell2
  clear cell2 E7
  go_wp2_with fail
  refine (keyed_any (OldNew T w w2.heap.size) w2 (some ⟨b, 0, none⟩) D c d g (HH.out.old BW.out _) k x MX.out ⟨okind, ohandle, okey, ovalue, oexpect⟩ H17.out.1 H17.out.2 KEY.out ROOM.out).mono ?_
  rintro e w7 ⟨A7, c7, he, hf7, hb7⟩
  generalize hp : keyedR g k x ⟨okind, ohandle, okey, ovalue, oexpect⟩ = p at *
  have HP := Lib.hid hp
  clear hp
  simp only [rfamV, ResD.cells] at he
  subst he
  have B7 := Lib.hid (B2.out.trans (hb7.mono B2.out.size))
  have F7 := Lib.hid (hf7.new (Nat.le_refl _))
  clear hf7 hb7 y00 y01 y02 y10 y11 y12 y13 y14 r0 r1 r2 t0 t1 t2 t3 t4 t5 t6 t7 fr0 fr1 fr2 ft0 ft1 ft2 ft3 ft4 ft5 ft6 ft7
  obtain ⟨x0, x1, x2, x3⟩ := KE.out _ B7.out
  obtain ⟨y00, y01, y02⟩ := fam_cells x0
  obtain ⟨y10, y11, y12, y13, y14⟩ := op_cells x1
  obtain ⟨r0, r1, r2⟩ := fam_cells x2
  obtain ⟨fr0, fr1, fr2⟩ := fam_free x2
  obtain ⟨t0, t1, t2, t3, t4, t5, t6, t7⟩ := res_cells x3
  obtain ⟨ft0, ft1, ft2, ft3, ft4, ft5, ft6, ft7⟩ := res_free x3
  clear x0 x1 x2 x3
  clear y10 y11 y12 y13 y14
  go_wp2_with fail
  try simp only [Exit.inBlock, Exit.then]
  refine bodyPost_ret (v := .tuple #[rfamV p.1 A7 c7 D d, .agg (p.2 : ResD).cells]) (by simp [results, Try.results26, go_sem, rfamV, ResD.cells, r0, r1, r2, t0, t1, t2, t3, t4, t5, t6, t7]) rfl ?_
  refine rap_new (n := w2.heap.size) KK.out ?_ BW.out.size ?_ HD.out
  · repeat' (first | (with_reducible refine RFamAt.store ?_ ?_ ?_ _) | (simp only []; have hx := HS.out; have hy := B2.out.size; omega))
    exact F7.out
  · repeat' (first | (with_reducible exact B0.out.trans (B7.out.mono B0.out.size)) | (with_reducible apply Below.drew) | (with_reducible apply Below.setCell) | (show _ ≤ _; simp only []; omega))
set_option maxRecDepth 100000 in
set_option maxHeartbeats 2000000 in
theorem rapply_size (T : Nat → Prop) (w : World) (A D : Option Addr) (c d : Nat) (g : RFam) (h : RFamAt T w A D g) (t i : Int) (ht : -9223372036854775808 ≤ t ∧ t ≤ 9223372036854775807) (hi : -9223372036854775808 ≤ i ∧ i ≤ 9223372036854775807) (o : OpD) (hkey : o.key.size ≤ maxLen) (hd0 : D = none → d = 0) (hz : refusedR g t i o = 0) (h8 : o.kind = 11) :
    Calls Try.prog 26 #[rfamV g A c D d, .int .i64 t, .int .i64 i, o.val] w (RApPost T w (applyR g t i o)) := by
  obtain ⟨okind, ohandle, okey, ovalue, oexpect⟩ := o
  simp only at h8
  subst h8
  obtain ⟨W0, hW0⟩ : ∃ W0, W0 = keyW w (.cells #[.int .u64 g.mask, .slice A g.maps.length c, .slice D g.walks.length d] 59) (.cells #[.int .i64 11, .int .i64 ohandle, .string okey, .int .u64 ovalue, .int .u64 oexpect] 39) (.cells #[.int .u64 0, .slice none 0 0, .slice none 0 0] 59) (.cells #[.int .i64 0, .bool false, .int .u64 0, .string ⟨#[]⟩, .int .i64 0, .int .i64 0, .int .i64 0, .bool false] 35) := ⟨_, rfl⟩
  have hb0 : Below w.heap.size w W0 := hW0 ▸ keyW_below _ _ _ _ _
  have hs0 : W0.heap.size = w.heap.size + 1 + 1 + 1 + 1 := hW0 ▸ keyW_size _ _ _ _ _
  have hk0 : W0.heap[w.heap.size]? = some (.cells #[.int .u64 g.mask, .slice A g.maps.length c, .slice D g.walks.length d] 59) := hW0 ▸ keyW_0 _ _ _ _ _
  have hk1 : W0.heap[w.heap.size + 1]? = some (.cells #[.int .i64 11, .int .i64 ohandle, .string okey, .int .u64 ovalue, .int .u64 oexpect] 39) := hW0 ▸ keyW_1 _ _ _ _ _
  have hk2 : W0.heap[w.heap.size + 1 + 1]? = some (.cells #[.int .u64 0, .slice none 0 0, .slice none 0 0] 59) := hW0 ▸ keyW_2 _ _ _ _ _
  have hk3 : W0.heap[w.heap.size + 1 + 1 + 1]? = some (.cells #[.int .i64 0, .bool false, .int .u64 0, .string ⟨#[]⟩, .int .i64 0, .int .i64 0, .int .i64 0, .bool false] 35) := hW0 ▸ keyW_3 _ _ _ _ _
  have KE := Lib.hid (fun W (hb : Below W0.heap.size W0 W) => apply_boxes hs0 hk0 hk1 hk2 hk3 hb)
  have H0 := h.below hb0
  have FI : Hid (∀ n W, Below W0.heap.size W0 W → Calls Try.prog 42 #[.agg #[.int .u64 g.mask, .slice A g.maps.length c, .slice D g.walks.length d], .int .i64 n] W fun e w' => e = .returned (.int .i64 (idxO (findM g.maps n))) ∧ Below W0.heap.size W0 w') := fun n W hb => (find_any T W A D c d g (H0.below hb) n).mono fun e w' p => lift_below hb p
  have NU : Hid (∀ W, Calls Try.prog 12 #[.int .i64 t, .int .i64 i] W fun e w' => e = .returned (.int .i64 (numberOf t i)) ∧ W = w') := fun W => refnum_any t i W ht hi
  have RE := Lib.hid (refused_any T W0 A D c d g H0 t i ht hi ⟨11, ohandle, okey, ovalue, oexpect⟩ hkey)
  have HR := Lib.hid H0
  have HB := Lib.hid (Below.refl W0.heap.size W0)
  have hW1 := hW0
  unfold keyW at hW1
  have HW := Lib.hid hW1
  have B0 := Lib.hid hb0
  have HS := Lib.hid hs0
  have HT := Lib.hid ht
  have HI := Lib.hid hi
  have HM := Lib.hid hkey
  have HH := Lib.hid h
  have HD := Lib.hid hd0
  clear hb0 hs0 hk0 hk1 hk2 hk3 hW0 hW1 H0 h ht hi hkey hd0
  simp only [rfamV, OpD.val] at RE ⊢
  generalize hER : refusedR g t i ⟨11, ohandle, okey, ovalue, oexpect⟩ = er at *
  have ER := Lib.hid hER
  clear hER
  go_enter Try.func26, Try.ntmps26
  go_upto_region 1 with fail
  rw [← HW.out]
  obtain ⟨x0, x1, x2, x3⟩ := KE.out _ HB.out
  have y0 := fam_cells x0
  have y1 := op_cells x1
  obtain ⟨y00, y01, y02⟩ := y0
  obtain ⟨y10, y11, y12, y13, y14⟩ := y1
  clear x0 x1 x2 x3
  go_wp2_with fail
  refine RE.out.mono ?_
  rintro e w1 ⟨rfl, hb1⟩
  have B1 := Lib.hid hb1
  clear y00 y01 y02 y10 y11 y12 y13 y14 hb1 RE
  subst hz
  have RN := refusedR_none ER.out
  obtain ⟨⟨n0, _, _⟩, _, hsome, hk7, _, _⟩ := RN
  obtain ⟨q, hq⟩ := Option.isSome_iff_exists.1 (hsome (by simp))
  obtain ⟨k, x⟩ := q
  simp only at hq n0 hk7
  obtain ⟨hm1, hm2⟩ := findM_at hq
  have hk := (List.getElem?_eq_some_iff.1 hm1).1
  obtain ⟨b, cs, rfl, hT, hbz, hrow, hcs⟩ := maps_row HH.out.low.maps (by omega)
  obtain ⟨u, cu, c0, c1, c2, hpr⟩ := hrow.each k x hm1
  have cell2 := hcs _ _ c2
  rw [raddr] at cell2
  have MX := Lib.hid hm1
  have e7 : idxO (findM g.maps ohandle) = (k : Int) := by rw [hq]; rfl
  have KK := Lib.hid (show applyR g t i ⟨11, ohandle, okey, ovalue, oexpect⟩ = (g, { count := x.pairs.length }) by
      unfold applyR
      rw [if_neg (by rw [ER.out]; simp), if_neg (by simp), hq]
      rfl)
  have hlm := HH.out.fit.lm
  have hk0 : (0 : Int) ≤ k := by omega
  have hk1 : (k : Int) < g.maps.length := by omega
  generalize hN : numberOf t i = N at *
  clear hN
  have E7 := Lib.hid e7
  clear e7 hq hm1 hm2 hrow hcs hpr c0 c1 c2 hsome n0 hT hk7
  obtain ⟨x0, x1, x2, x3⟩ := KE.out _ B1.out
  obtain ⟨y00, y01, y02⟩ := fam_cells x0
  obtain ⟨y10, y11, y12, y13, y14⟩ := op_cells x1
  clear x0 x1 x2 x3 y13 y14
  go_upto_region 4 with fail
  refine wp_region_class (C := fun W => Below W0.heap.size W0 W) (by kernel_rfl) (by kernel_rfl) B1.out.drew ?_
  clear y00 y01 y02 y10 y11 y12
  repeat (first | go_big_quiet_step (fail) | (refine' wpQuiet_take (by kernel_rfl) (fun W hW => ?_) ?_; rotate_left; (obtain ⟨x0, x1, _, _⟩ := KE.out W hW); (obtain ⟨y0, y1, y2⟩ := fam_cells x0); (obtain ⟨p0, p1, p2, _, _⟩ := op_cells x1); clear x0 x1; go_simp; (first | rfl | (with_reducible exact FI.out _ _ hW) | (with_reducible exact (NU.out W).mono (fun e w' p => ⟨p.1, p.2 ▸ hW⟩))); (simp only [Act.put, List.setIfInBounds_toArray, List.set_cons_zero, List.set_cons_succ])))
  refine wpQuiet_nil ?_
  intro w2 hb2
  have B2 := Lib.hid hb2
  have BW := Lib.hid (B0.out.trans (hb2.mono B0.out.size))
  clear hb2 B1 HB
  obtain ⟨x0, x1, x2, x3⟩ := KE.out _ B2.out
  obtain ⟨y00, y01, y02⟩ := fam_cells x0
  obtain ⟨y10, y11, y12, y13, y14⟩ := op_cells x1
  obtain ⟨r0, r1, r2⟩ := fam_cells x2
  obtain ⟨fr0, fr1, fr2⟩ := fam_free x2
  obtain ⟨t0, t1, t2, t3, t4, t5, t6, t7⟩ := res_cells x3
  obtain ⟨ft0, ft1, ft2, ft3, ft4, ft5, ft6, ft7⟩ := res_free x3
  clear x0 x1 x2 x3
  rw [E7.out]
  have cellx := (World.cell?_of_block (a := ⟨b, k * 3 + 2, none⟩) (BW.out.block b hbz)).trans cell2
  clear cell2 E7
  go_upto_region 13 with fail
  have K0 : Hid (Off w w2 w2) := Off.refl w w2
  have KX : Hid (∀ W, Off w w2 W → (W.cell? ⟨w.heap.size, 0, none⟩ = some (.int .u64 g.mask) ∧ W.cell? ⟨w.heap.size, 1, none⟩ = some (.slice (some ⟨b, 0, none⟩) g.maps.length c) ∧ W.cell? ⟨w.heap.size, 2, none⟩ = some (.slice D g.walks.length d) ∧ W.cell? ⟨b, k * 3 + 2, none⟩ = some (.slice u x.pairs.length cu))) := fun W h => ⟨h.cell y00 (by omega) (by omega), h.cell y01 (by omega) (by omega), h.cell y02 (by omega) (by omega), h.cell cellx (by omega) (by omega)⟩
  clear y00 y01 y02 y10 y11 y12 y13 y14 cellx
  go_region_held3 (fun W => (W.cell? ⟨w.heap.size, 0, none⟩ = some (.int .u64 g.mask) ∧ W.cell? ⟨w.heap.size, 1, none⟩ = some (.slice (some ⟨b, 0, none⟩) g.maps.length c) ∧ W.cell? ⟨w.heap.size, 2, none⟩ = some (.slice D g.walks.length d) ∧ W.cell? ⟨b, k * 3 + 2, none⟩ = some (.slice u x.pairs.length cu))) ((refine KX.out _ ?_; (repeat' (first | (with_reducible exact K0.out) | (with_reducible refine Off.drew ?_) | (with_reducible refine Off.set2 ?_ _ _) | (with_reducible refine Off.set3 ?_ _ _))))) (fail)
  all_goals
    go_wp2_with fail
    try simp only [Exit.inBlock, Exit.then]
    refine bodyPost_ret (v := .tuple #[rfamV g (some ⟨b, 0, none⟩) c D d, .agg ({ count := x.pairs.length } : ResD).cells]) (by simp [results, Try.results26, go_sem, rfamV, ResD.cells, r0, r1, r2, t0, t1, t2, t3, t4, t5, t6, t7]) rfl ?_
    refine rap_same KK.out HH.out ?_ HD.out
    repeat' (first | (with_reducible exact BW.out) | (with_reducible apply Below.drew) | (with_reducible apply Below.setCell) | (show _ ≤ _; simp only []; omega))
end Go.Proofs.Ytagfghihnkkfiaa
