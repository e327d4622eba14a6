/- The walk of the reference's Apply: a snapshot. -/
import Derived.Test.YtbmoehndnbbhcaaGreatDoorMZB
import Derived.Test.YtbmoehndnbbhcaaGreatDoorMLast
import Derived.Deep.RegionHeld3
namespace Go.Proofs.YtbmoehndnbbhcaaGreatDoor
set_option linter.unusedVariables false
set_option linter.unusedSimpArgs false
open Go Go.RowKit Go.MapKept
/-- an append as one step of a region -/
theorem step_app {ops : Array Oper} {o : Oper} {a : Act} {K : Act → World → Prop} {Q : Exit → Act → World → Prop} {E : Prop} (T e : TypeId) (hT : Tryz.prog.underlying T = some (.slice e)) (z : Value) (sz by8 : Nat) (hinfo : (Tryz.prog.info? e).map (fun i => (i.zero, i.size, i.bytes)) = some (some z, sz, by8)) (hz : z.cells.size = sz) (h0 : 0 < sz)
    (hgd : o.guard = none) (s x : Operand) (ho : o.op = .call { callee := .builtin .append, args := #[s, x], argTypes := #[T, T] })
    (B : Nat) (W : World) (v : Value) (n : Nat) (xs : List Value) (hs : a.eval s = v) (hown : W.ownsRow B e sz v n xs) (ad : Addr) (m c : Nat) (ys : List Value) (hx : a.eval x = .slice (some ad) m c) (hl : ys.length = m * sz)
    (hc : ∀ j u, ys[j]? = some u → W.cell? (ad.add j) = some u) (h1 : ∀ u ∈ ys, u.oneCell' = true) (hB : B ≤ W.heap.size) (hm : n + m ≤ maxLen) (hlen : (n + m) * by8 ≤ 140737488355328)
    (hK : ∀ a' c' w', w'.ownsRow B e sz (.slice a' (n + m) c') (n + m) (xs ++ ys) → W.grownBy w' v.ownBlock → K (a.put o.dst (.slice a' (n + m) c')) w') : if Region.wanted o (yielded ops a.tmps) = true then Oper.wp Tryz.prog o a W K Q else E := by
  have hw : Region.wanted o (yielded ops a.tmps) = true := by simp [Region.wanted, hgd]
  rw [if_pos hw]
  obtain ⟨i0, hi, hz0, hz1, hz2⟩ := info_parts3 hinfo
  obtain ⟨v', w', hr, ho', hg, _⟩ := run_append_own (P := Tryz.prog) (w := W) B T o.type e i0 z sz by8 hT hi hz0 hz1 hz2 hz h0 v n xs hown ad m c ys hl hc h1 hm hlen hB
  obtain ⟨a', c', rfl⟩ := row_form ho'
  unfold Oper.wp execOp
  simp only [ho, resolve, invoke, builtin, Sem.run_bind, Sem.run_pure, Result.andThen_ok, List.map_toArray, List.map_cons, List.map_nil, hs, hx, hr]
  exact hK a' c' w' ho' hg
theorem refusedR_none {g : RFam} {t i : Int} {o : OpD} (h : refusedR g t i o = 0) : (¬ numberOf t i < 0 ∧ 1 ≤ o.kind ∧ o.kind ≤ 13) ∧ (o.kind = 13 → strangerR (findW g.walks o.handle) t = false) ∧ (o.kind ≠ 13 → (findM g.maps o.handle).isSome = true) ∧ (o.kind ≤ 7 → (o.key.size : Int) ≤ 64) ∧ ((o.kind ≤ 6 ∨ o.kind = 10) → roR (findM g.maps o.handle) true = false) ∧ ((o.kind = 11 ∨ o.kind = 12) → roR (findM g.maps o.handle) false = false) := by
  unfold refusedR at h
  split at h
  · simp at h
  rename_i h1
  split at h
  · simp at h
  rename_i h2
  split at h
  · simp at h
  rename_i h3
  split at h
  · simp at h
  rename_i h4
  split at h
  · simp at h
  rename_i h5
  split at h
  · simp at h
  rename_i h6
  refine ⟨by omega, fun e => ?_, fun e => ?_, fun e => ?_, fun e => ?_, fun e => ?_⟩
  · cases hs : strangerR (findW g.walks o.handle) t with
    | false => rfl
    | true => exact absurd ⟨e, hs⟩ h2
  · cases hs : findM g.maps o.handle with
    | some p => rfl
    | none => exact absurd ⟨e, by rw [hs]; rfl⟩ h3
  · exact Decidable.of_not_not fun hk => h4 ⟨e, hk⟩
  · cases hs : roR (findM g.maps o.handle) true with
    | false => rfl
    | true => exact absurd ⟨e, hs⟩ h5
  · cases hs : roR (findM g.maps o.handle) false with
    | false => rfl
    | true => exact absurd ⟨e, hs⟩ h6
theorem bal {a w : World} (h : Below a.heap.size a w) (o : Obj) : Below a.heap.size a (w.alloc o) := h.alloc h.size o
theorem src_cells {w0 W : World} {b : Nat} {cs : List Value} (hc : ∀ j u, cs[j]? = some u → w0.cell? ((⟨b, 0, none⟩ : Addr).add j) = some u) (hb : W.heap[b]? = w0.heap[b]?) : ∀ j u, cs[j]? = some u → W.cell? ((⟨b, 0, none⟩ : Addr).add j) = some u := by
  intro j u hu
  have := hc j u hu
  rw [raddr] at this ⊢
  exact (World.cell?_of_block (a := ⟨b, j, none⟩) hb).trans this
/-- the cells of a new block -/
theorem new_cells {W : World} {q : Nat} {vs : List Value} {T : TypeId} (h : W.heap[q]? = some (.cells vs.toArray T (0, 0))) : ∀ j u, vs[j]? = some u → W.cell? ((⟨q, 0, none⟩ : Addr).add j) = some u := by
  intro j u hu
  rw [raddr]
  exact (blk_cell h j).trans (by simpa using hu)
theorem RowOf.snoc {T : Nat → Prop} {w : World} {cs : List Value} {ms : List RMap} (h : RowOf T w cs ms) {d : RMap} {u : Option Addr} {c : Nat} (hp : PrAt T w u d.pairs) :
    RowOf T w (cs ++ [.int .i64 d.num, .bool d.ro, .slice u d.pairs.length c]) (ms ++ [d]) := by
  have hl := h.len
  refine ⟨by simp [hl]; omega, fun x hx => ?_, fun i x hx => ?_⟩
  · rcases List.mem_append.1 hx with hx | hx
    · exact h.one x hx
    · simp only [List.mem_cons, List.not_mem_nil, or_false] at hx
      rcases hx with rfl | rfl | rfl <;> rfl
  · by_cases hi : i < ms.length
    · rw [List.getElem?_append_left hi] at hx
      obtain ⟨u', c', h0, h1, h2, h3⟩ := h.each i x hx
      exact ⟨u', c', by rw [List.getElem?_append_left (by omega)]; exact h0, by rw [List.getElem?_append_left (by omega)]; exact h1, by rw [List.getElem?_append_left (by omega)]; exact h2, h3⟩
    · have hi' : i = ms.length := by
        have := (List.getElem?_eq_some_iff.1 hx).1
        simp at this
        omega
      subst hi'
      obtain rfl : d = x := by simpa using hx
      refine ⟨u, c, ?_, ?_, ?_, hp⟩
      · rw [List.getElem?_append_right (by omega), show ms.length * 3 - cs.length = 0 by omega]; rfl
      · rw [List.getElem?_append_right (by omega), show ms.length * 3 + 1 - cs.length = 1 by omega]; rfl
      · rw [List.getElem?_append_right (by omega), show ms.length * 3 + 2 - cs.length = 2 by omega]; rfl
theorem RFit.snap {g : RFam} (h : RFit g) {x : RMap} (hx : x ∈ g.maps) (n : Int) (b : Bool) (hr : g.maps.length < 1048576) : RFit { g with maps := g.maps ++ [⟨n, b, x.pairs⟩] } := by
  refine ⟨h.m0, h.m1, by simp; omega, h.lw, fun d hd => ?_, fun d hd => ?_, h.pos⟩
  · rcases List.mem_append.1 hd with hd | hd
    · exact h.lp d hd
    · obtain rfl := List.mem_singleton.1 hd
      exact h.lp x hx
  · rcases List.mem_append.1 hd with hd | hd
    · exact h.keys d hd
    · obtain rfl := List.mem_singleton.1 hd
      exact h.keys x hx
/-- what region 8 leaves: a new row of maps, in the family's box -/
def SnapMid (w w2 : World) (n : Nat) (cs : List Value) (wx : World) : Prop :=
  ∃ (u5 : Option Addr) (c5 : Nat) (w5 : World), Below w2.heap.size w2 w5 ∧ w5.ownsRow w2.heap.size 116 3 (.slice u5 n c5) n cs ∧ wx = w5.setCell ⟨w.heap.size, 1, none⟩ (.slice u5 n c5)
theorem snap_fam {T : Nat → Prop} {w w2 w5 : World} {b : Nat} {D u u5 : Option Addr} {g : RFam} {cs : List Value} {k c5 cu : Nat} {x : RMap} {N : Int} {ro : Bool} (hw2 : Below w.heap.size w w2) (hh : RFamAt T w (some ⟨b, 0, none⟩) D g) (hb5 : Below w2.heap.size w2 w5)
    (hrow : w5.ownsRow w2.heap.size 116 3 (.slice u5 (g.maps.length + 1) c5) (g.maps.length + 1) (cs ++ [.int .i64 N, .bool ro, .slice u x.pairs.length cu])) (hr : RowOf (fun b => T b ∧ b < w.heap.size) w cs g.maps) (hx : g.maps[k]? = some x) (hp : PrAt (fun b => T b ∧ b < w.heap.size) w u x.pairs) (hm : g.maps.length < 1048576) :
    RFamAt (OldNew T w w2.heap.size) w5 u5 D { g with maps := g.maps ++ [⟨N, ro, x.pairs⟩] } := by
  have hk : Kept (fun b => T b ∧ b < w.heap.size) w w5 := Kept.of_below (hw2.trans (hb5.mono hw2.size))
  refine ⟨row_maps (B := w2.heap.size) (c := c5) hrow ?_ (by simp) (fun q h1 h2 => Or.inr h1), (hh.low.walks.keep hk).more fun _ h => Or.inl h, hh.fit.snap (List.mem_of_getElem? hx) N ro hm⟩
  exact ((hr.keep hk).more fun _ h => Or.inl h).snoc (d := ⟨N, ro, x.pairs⟩) ((hp.keep hk).more fun _ h => Or.inl h)
set_option maxRecDepth 100000 in
set_option maxHeartbeats 2000000 in
theorem rapply_snap8 (T : Nat → Prop) (w : World) (A D : Option Addr) (c d : Nat) (g : RFam) (h : RFamAt T w A D g) (t i : Int) (ht : -9223372036854775808 ≤ t ∧ t ≤ 9223372036854775807) (hi : -9223372036854775808 ≤ i ∧ i ≤ 9223372036854775807) (o : OpD) (hkey : o.key.size ≤ maxLen) (hd0 : D = none → d = 0) (hz : refusedR g t i o = 0) (h8 : o.kind = 8) (hmr : g.maps.length < 1048576) :
    Calls Tryz.prog 29 #[rfamV g A c D d, .int .i64 t, .int .i64 i, o.val] w (RApPost T w (applyR g t i o)) := by
  obtain ⟨okind, ohandle, okey, ovalue, oexpect⟩ := o
  simp only at h8
  subst h8
  obtain ⟨W0, hW0⟩ : ∃ W0, W0 = keyW w (.cells #[.int .u64 g.mask, .slice A g.maps.length c, .slice D g.walks.length d] 72) (.cells #[.int .i64 8, .int .i64 ohandle, .string okey, .int .u64 ovalue, .int .u64 oexpect] 60) (.cells #[.int .u64 0, .slice none 0 0, .slice none 0 0] 72) (.cells #[.int .i64 0, .bool false, .int .u64 0, .string ⟨#[]⟩, .int .i64 0, .int .i64 0, .int .i64 0, .bool false] 45) := ⟨_, rfl⟩
  have hb0 : Below w.heap.size w W0 := hW0 ▸ keyW_below _ _ _ _ _
  have hs0 : W0.heap.size = w.heap.size + 1 + 1 + 1 + 1 := hW0 ▸ keyW_size _ _ _ _ _
  have hk0 : W0.heap[w.heap.size]? = some (.cells #[.int .u64 g.mask, .slice A g.maps.length c, .slice D g.walks.length d] 72) := hW0 ▸ keyW_0 _ _ _ _ _
  have hk1 : W0.heap[w.heap.size + 1]? = some (.cells #[.int .i64 8, .int .i64 ohandle, .string okey, .int .u64 ovalue, .int .u64 oexpect] 60) := hW0 ▸ keyW_1 _ _ _ _ _
  have hk2 : W0.heap[w.heap.size + 1 + 1]? = some (.cells #[.int .u64 0, .slice none 0 0, .slice none 0 0] 72) := hW0 ▸ keyW_2 _ _ _ _ _
  have hk3 : W0.heap[w.heap.size + 1 + 1 + 1]? = some (.cells #[.int .i64 0, .bool false, .int .u64 0, .string ⟨#[]⟩, .int .i64 0, .int .i64 0, .int .i64 0, .bool false] 45) := hW0 ▸ keyW_3 _ _ _ _ _
  have KE := Lib.hid (fun W (hb : Below W0.heap.size W0 W) => apply_boxes hs0 hk0 hk1 hk2 hk3 hb)
  have H0 := h.below hb0
  have FI : Hid (∀ n W, Below W0.heap.size W0 W → Calls Tryz.prog 51 #[.agg #[.int .u64 g.mask, .slice A g.maps.length c, .slice D g.walks.length d], .int .i64 n] W fun e w' => e = .returned (.int .i64 (idxO (findM g.maps n))) ∧ Below W0.heap.size W0 w') := fun n W hb => (find_any T W A D c d g (H0.below hb) n).mono fun e w' p => lift_below hb p
  have NU : Hid (∀ W, Calls Tryz.prog 50 #[.int .i64 t, .int .i64 i] W fun e w' => e = .returned (.int .i64 (numberOf t i)) ∧ W = w') := fun W => refnum_any t i W ht hi
  have RE := Lib.hid (refused_any T W0 A D c d g H0 t i ht hi ⟨8, ohandle, okey, ovalue, oexpect⟩ hkey)
  have HR := Lib.hid H0
  have HB := Lib.hid (Below.refl W0.heap.size W0)
  have hW1 := hW0
  unfold keyW at hW1
  have HW := Lib.hid hW1
  have B0 := Lib.hid hb0
  have HS := Lib.hid hs0
  have HT := Lib.hid ht
  have HI := Lib.hid hi
  have HM := Lib.hid hkey
  have HH := Lib.hid h
  have HD := Lib.hid hd0
  clear hb0 hs0 hk0 hk1 hk2 hk3 hW0 hW1 H0 h ht hi hkey hd0
  simp only [rfamV, OpD.val] at RE ⊢
  generalize hER : refusedR g t i ⟨8, ohandle, okey, ovalue, oexpect⟩ = er at *
  have ER := Lib.hid hER
  clear hER
  go_enter Tryz.func29, Tryz.ntmps29
  go_upto_region 1 with fail
  rw [← HW.out]
  obtain ⟨x0, x1, x2, x3⟩ := KE.out _ HB.out
  have y0 := fam_cells x0
  have y1 := op_cells x1
  obtain ⟨y00, y01, y02⟩ := y0
  obtain ⟨y10, y11, y12, y13, y14⟩ := y1
  clear x0 x1 x2 x3
  go_wp2_with fail
  refine RE.out.mono ?_
  rintro e w1 ⟨rfl, hb1⟩
  have B1 := Lib.hid hb1
  clear y00 y01 y02 y10 y11 y12 y13 y14 hb1 RE
  subst hz
  have RN := refusedR_none ER.out
  obtain ⟨⟨n0, _, _⟩, _, hsome, _, _, _⟩ := RN
  obtain ⟨q, hq⟩ := Option.isSome_iff_exists.1 (hsome (by simp))
  obtain ⟨k, x⟩ := q
  simp only at hq n0
  obtain ⟨hm1, hm2⟩ := findM_at hq
  have hk := (List.getElem?_eq_some_iff.1 hm1).1
  obtain ⟨b, cs, rfl, hT, hbz, hrow, hcs⟩ := maps_row HH.out.low.maps (by omega)
  obtain ⟨u, cu, c0, c1, c2, hpr⟩ := hrow.each k x hm1
  have cell2 := hcs _ _ c2
  rw [raddr] at cell2
  have R := Lib.hid hrow
  have C := Lib.hid hcs
  have PX := Lib.hid hpr
  have MX := Lib.hid hm1
  have e7 : idxO (findM g.maps ohandle) = (k : Int) := by rw [hq]; rfl
  have KK := Lib.hid (show applyR g t i ⟨8, ohandle, okey, ovalue, oexpect⟩ = ({ g with maps := g.maps ++ [⟨numberOf t i, false, x.pairs⟩] }, { found := true }) by
    unfold applyR
    rw [if_neg (by rw [ER.out]; simp), if_neg (by simp), hq]
    rfl)
  have hlm := HH.out.fit.lm
  have hk0 : (0 : Int) ≤ k := by omega
  have hk1 : (k : Int) < g.maps.length := by omega
  generalize hN : numberOf t i = N at *
  clear hN
  have E7 := Lib.hid e7
  clear e7 hq hm1 hm2 hrow hcs hpr c0 c1 c2 hsome n0 hT
  obtain ⟨x0, x1, x2, x3⟩ := KE.out _ B1.out
  obtain ⟨y00, y01, y02⟩ := fam_cells x0
  obtain ⟨y10, y11, y12, y13, y14⟩ := op_cells x1
  clear x0 x1 x2 x3 y13 y14
  go_upto_region 4 with fail
  refine wp_region_class (C := fun W => Below W0.heap.size W0 W) (by kernel_rfl) (by kernel_rfl) B1.out.drew ?_
  clear y00 y01 y02 y10 y11 y12
  repeat (first | go_big_quiet_step (fail) | (refine' wpQuiet_take (by kernel_rfl) (fun W hW => ?_) ?_; rotate_left; (obtain ⟨x0, x1, _, _⟩ := KE.out W hW); (obtain ⟨y0, y1, y2⟩ := fam_cells x0); (obtain ⟨p0, p1, p2, _, _⟩ := op_cells x1); clear x0 x1; go_simp; (first | rfl | (with_reducible exact FI.out _ _ hW) | (with_reducible exact (NU.out W).mono (fun e w' p => ⟨p.1, p.2 ▸ hW⟩))); (simp only [Act.put, List.setIfInBounds_toArray, List.set_cons_zero, List.set_cons_succ])))
  refine wpQuiet_nil ?_
  intro w2 hb2
  have B2 := Lib.hid hb2
  have BW := Lib.hid (B0.out.trans (hb2.mono B0.out.size))
  clear hb2 B1 HB
  obtain ⟨x0, x1, x2, x3⟩ := KE.out _ B2.out
  obtain ⟨y00, y01, y02⟩ := fam_cells x0
  obtain ⟨y10, y11, y12, y13, y14⟩ := op_cells x1
  obtain ⟨r0, r1, r2⟩ := fam_cells x2
  obtain ⟨fr0, fr1, fr2⟩ := fam_free x2
  obtain ⟨t0, t1, t2, t3, t4, t5, t6, t7⟩ := res_cells x3
  obtain ⟨ft0, ft1, ft2, ft3, ft4, ft5, ft6, ft7⟩ := res_free x3
  clear x0 x1 x2 x3
  rw [E7.out]
  have cellx := (World.cell?_of_block (a := ⟨b, k * 3 + 2, none⟩) (BW.out.block b hbz)).trans cell2
  clear cell2 E7
  go_upto_region 8 with fail
  have fz1 : w2.frozen? ⟨w.heap.size, 1, none⟩ = false := (fam_free (KE.out _ B2.out).1).2.1
  have KX : Hid (∀ W, Below w2.heap.size w2 W → (W.cell? ⟨w.heap.size, 1, none⟩ = some (.slice (some ⟨b, 0, none⟩) g.maps.length c) ∧ W.cell? ⟨w.heap.size + 1, 0, none⟩ = some (.int .i64 8) ∧ W.cell? ⟨b, k * 3 + 2, none⟩ = some (.slice u x.pairs.length cu))) := fun W hb => ⟨(hb.cell (p := ⟨_, _, none⟩) (World.block_lt_of_cell? w2 _ y01)).trans y01, (hb.cell (p := ⟨_, _, none⟩) (World.block_lt_of_cell? w2 _ y10)).trans y10, (hb.cell (p := ⟨_, _, none⟩) (World.block_lt_of_cell? w2 _ cellx)).trans cellx⟩
  have KF : Hid (∀ W, Below w2.heap.size w2 W → W.frozen? ⟨w.heap.size, 1, none⟩ = false) := fun W hb => (hb.frozen (p := ⟨_, _, none⟩) (World.block_lt_of_cell? w2 _ y01)).trans fz1
  have BD : Hid (Below w2.heap.size w2 w2.drew) := (Below.refl _ _).drew
  clear y00 y01 y02 y10 y11 y12 y13 y14 cellx fz1 r0 r1 r2 t0 t1 t2 t3 t4 t5 t6 t7 fr0 fr1 fr2 ft0 ft1 ft2 ft3 ft4 ft5 ft6 ft7
  go_cut [] (fun wx => SnapMid w w2 (g.maps.length + 1) (cs ++ [.int .i64 N, .bool false, .slice u x.pairs.length cu]) wx)
  case first =>
    refine wp_region_last_lit (fun W => (W.cell? ⟨w.heap.size, 1, none⟩ = some (.slice (some ⟨b, 0, none⟩) g.maps.length c) ∧ W.cell? ⟨w.heap.size + 1, 0, none⟩ = some (.int .i64 8) ∧ W.cell? ⟨b, k * 3 + 2, none⟩ = some (.slice u x.pairs.length cu))) 18 (by kernel_rfl) rfl rfl (by kernel_rfl) (KX.out _ BD.out) (fun hHeld => ?_)
    simp only [List.dropLast_cons_cons, List.dropLast_singleton, List.length_cons, List.length_nil, Nat.zero_add, Nat.reduceAdd]
    ((refine take_at (i := 1) (v := ?_) rfl (by kernel_rfl) (by kernel_rfl) (by kernel_rfl) (fun _ _ _ h => h) (by rfl) ?_ (by assumption) ?_); rotate_left; (focus (intro wz hSw; (try dsimp only at hSw); obtain ⟨s0, s1, s2⟩ := hSw; go_simp; (try (with_reducible rfl)))); (try simp only [Act.put, List.setIfInBounds_toArray, List.set_cons_zero, List.set_cons_succ]))
    ((refine take_at (i := 2) (v := ?_) rfl (by kernel_rfl) (by kernel_rfl) (by kernel_rfl) (fun _ _ _ h => h) (by rfl) ?_ (by assumption) ?_); rotate_left; (focus (intro wz hSw; (try dsimp only at hSw); obtain ⟨s0, s1, s2⟩ := hSw; go_simp; (try (with_reducible rfl)))); (try simp only [Act.put, List.setIfInBounds_toArray, List.set_cons_zero, List.set_cons_succ]))
    ((refine take_at (i := 4) (v := ?_) rfl (by kernel_rfl) (by kernel_rfl) (by kernel_rfl) (fun _ _ _ h => h) (by rfl) ?_ (by assumption) ?_); rotate_left; (focus (intro wz hSw; (try dsimp only at hSw); obtain ⟨s0, s1, s2⟩ := hSw; go_simp; (try (with_reducible rfl)))); (try simp only [Act.put, List.setIfInBounds_toArray, List.set_cons_zero, List.set_cons_succ]))
    ((refine take_at (i := 5) (v := ?_) rfl (by kernel_rfl) (by kernel_rfl) (by kernel_rfl) (fun _ _ _ h => h) (by rfl) ?_ (by assumption) ?_); rotate_left; (focus (intro wz hSw; (try dsimp only at hSw); obtain ⟨s0, s1, s2⟩ := hSw; go_simp; (try (with_reducible rfl)))); (try simp only [Act.put, List.setIfInBounds_toArray, List.set_cons_zero, List.set_cons_succ]))
    ((refine take_at (i := 6) (v := ?_) rfl (by kernel_rfl) (by kernel_rfl) (by kernel_rfl) (fun _ _ _ h => h) (by rfl) ?_ (by assumption) ?_); rotate_left; (focus (intro wz hSw; (try dsimp only at hSw); obtain ⟨s0, s1, s2⟩ := hSw; go_simp; (try (with_reducible rfl)))); (try simp only [Act.put, List.setIfInBounds_toArray, List.set_cons_zero, List.set_cons_succ]))
    ((refine take_at (i := 7) (v := ?_) rfl (by kernel_rfl) (by kernel_rfl) (by kernel_rfl) (fun _ _ _ h => h) (by rfl) ?_ (by assumption) ?_); rotate_left; (focus (intro wz hSw; (try dsimp only at hSw); obtain ⟨s0, s1, s2⟩ := hSw; go_simp; (try (with_reducible rfl)))); (try simp only [Act.put, List.setIfInBounds_toArray, List.set_cons_zero, List.set_cons_succ]))
    ((refine take_at (i := 8) (v := ?_) rfl (by kernel_rfl) (by kernel_rfl) (by kernel_rfl) (fun _ _ _ h => h) (by rfl) ?_ (by assumption) ?_); rotate_left; (focus (intro wz hSw; (try dsimp only at hSw); obtain ⟨s0, s1, s2⟩ := hSw; go_simp; (try (with_reducible rfl)))); (try simp only [Act.put, List.setIfInBounds_toArray, List.set_cons_zero, List.set_cons_succ]))
    ((refine take_at (i := 9) (v := ?_) rfl (by kernel_rfl) (by kernel_rfl) (by kernel_rfl) (fun _ _ _ h => h) (by rfl) ?_ (by assumption) ?_); rotate_left; (focus (intro wz hSw; (try dsimp only at hSw); obtain ⟨s0, s1, s2⟩ := hSw; go_simp; (try (with_reducible rfl)))); (try simp only [Act.put, List.setIfInBounds_toArray, List.set_cons_zero, List.set_cons_succ]))
    ((refine take_at (i := 10) (v := ?_) rfl (by kernel_rfl) (by kernel_rfl) (by kernel_rfl) (fun _ _ _ h => h) (by rfl) ?_ (by assumption) ?_); rotate_left; (focus (intro wz hSw; (try dsimp only at hSw); obtain ⟨s0, s1, s2⟩ := hSw; go_simp; (try (with_reducible rfl)))); (try simp only [Act.put, List.setIfInBounds_toArray, List.set_cons_zero, List.set_cons_succ]))
    ((refine take_at (i := 11) (v := ?_) rfl (by kernel_rfl) (by kernel_rfl) (by kernel_rfl) (fun _ _ _ h => h) (by rfl) ?_ (by assumption) ?_); rotate_left; (focus (intro wz hSw; (try dsimp only at hSw); obtain ⟨s0, s1, s2⟩ := hSw; go_simp; (try (with_reducible rfl)))); (try simp only [Act.put, List.setIfInBounds_toArray, List.set_cons_zero, List.set_cons_succ]))
    ((refine take_at (i := 12) (v := ?_) rfl (by kernel_rfl) (by kernel_rfl) (by kernel_rfl) (fun _ _ _ h => h) (by rfl) ?_ (by assumption) ?_); rotate_left; (focus (intro wz hSw; (try dsimp only at hSw); obtain ⟨s0, s1, s2⟩ := hSw; go_simp; (try (with_reducible rfl)))); (try simp only [Act.put, List.setIfInBounds_toArray, List.set_cons_zero, List.set_cons_succ]))
    ((refine take_at (i := 13) (v := ?_) rfl (by kernel_rfl) (by kernel_rfl) (by kernel_rfl) (fun _ _ _ h => h) (by rfl) ?_ (by assumption) ?_); rotate_left; (focus (intro wz hSw; (try dsimp only at hSw); obtain ⟨s0, s1, s2⟩ := hSw; go_simp; (try (with_reducible rfl)))); (try simp only [Act.put, List.setIfInBounds_toArray, List.set_cons_zero, List.set_cons_succ]))
    ((refine take_at (i := 14) (v := ?_) rfl (by kernel_rfl) (by kernel_rfl) (by kernel_rfl) (fun _ _ _ h => h) (by rfl) ?_ (by assumption) ?_); rotate_left; (focus (intro wz hSw; (try dsimp only at hSw); obtain ⟨s0, s1, s2⟩ := hSw; go_simp; (try (with_reducible rfl)))); (try simp only [Act.put, List.setIfInBounds_toArray, List.set_cons_zero, List.set_cons_succ]))
    have ZD : Hid (w2.drew.heap.size = w2.heap.size) := Lib.hid rfl
    generalize w2.drew = wd at *
    refine wpAnyH_ready (rs := [0, 15]) (by kernel_rfl) (by simp) ?_
    refine cons_at rfl (fun K hK => ?_) ?_
    · go_simp
      have ZA := ZD.out
      have BA : Hid (Below w2.heap.size w2 (wd.alloc (.cells #[] 116))) := BD.out.alloc (by omega) _
      clear ZA
      refine hK.out _ _ (KX.out _ BA.out) (fun hHeld => ?_)
      clear hK K
      try simp only [Act.put, List.setIfInBounds_toArray, List.set_cons_zero, List.set_cons_succ, Nat.zero_add]
      refine wpAnyH_ready (rs := [3, 15]) (by kernel_rfl) (by simp) ?_
      refine cons_at rfl (fun K hK => ?_) ?_
      · refine step_app 69 116 Tryz.underlying69 _ 3 40 map_info rfl (by decide) rfl _ _ rfl wd.heap.size _ (.slice (some ⟨wd.heap.size, 0, none⟩) 0 0) 0 [] rfl (World.ownsRow_lit (base := wd.heap.size) wd #[] 0 (Nat.le_refl _) (by unfold maxLen; omega) rfl) ⟨b, 0, none⟩ g.maps.length c cs rfl R.out.len (src_cells C.out ?hsrc1) R.out.one ?hbase2 (by unfold maxLen; omega) (by omega) ?_
        case hsrc1 => exact (BA.out.block b (Nat.lt_of_lt_of_le hbz BW.out.size)).trans (BW.out.block b hbz)
        case hbase2 => (first | omega | (simp <;> omega))
        intro a3 c3 w3 ho3 hg3
        simp only [Nat.zero_add, List.nil_append] at ho3
        have O3 := Lib.hid ho3
        have B3 := Lib.hid (BD.out.trans (grown_below hg3 (B := w2.heap.size) (by have := ZD.out; omega) (fun q hq => by have := ZD.out; have e : wd.heap.size = q := Option.some.inj hq; omega)))
        have Z3 : wd.heap.size ≤ w3.heap.size := by have := hg3.size; simp at this; omega
        clear ho3 hg3
        refine hK.out _ _ (KX.out _ B3.out) (fun hHeld => ?_)
        clear hK K
        try simp only [Act.put, List.setIfInBounds_toArray, List.set_cons_zero, List.set_cons_succ, Nat.zero_add]
        refine wpAnyH_ready (rs := [15]) (by kernel_rfl) (by simp) ?_
        refine cons_at rfl (fun K hK => ?_) ?_
        · go_simp
          have BB : Hid (Below w2.heap.size w2 (w3.alloc (.cells #[.int .i64 N, .bool false, .slice u x.pairs.length cu] 116))) := B3.out.alloc B3.out.size _
          refine hK.out _ _ (KX.out _ BB.out) (fun hHeld => ?_)
          clear hK K
          try simp only [Act.put, List.setIfInBounds_toArray, List.set_cons_zero, List.set_cons_succ, Nat.zero_add]
          refine wpAnyH_ready (rs := [16]) (by kernel_rfl) (by simp) ?_
          refine cons_at rfl (fun K hK => ?_) ?_
          · refine step_app 69 116 Tryz.underlying69 _ 3 40 map_info rfl (by decide) rfl _ _ rfl wd.heap.size _ (.slice a3 g.maps.length c3) g.maps.length cs rfl (O3.out.alloc _) ⟨_, 0, none⟩ 1 1 [.int .i64 N, .bool false, .slice u x.pairs.length cu] rfl rfl (new_cells (T := 116) ?hnew4) (by intro v hv; simp only [List.mem_cons, List.not_mem_nil, or_false] at hv; rcases hv with rfl | rfl | rfl <;> rfl) ?hbase3 (by unfold maxLen; omega) (by omega) ?_
            case hnew4 => exact (heap_alloc w3 _).1
            case hbase3 => (first | omega | (simp <;> omega))
            intro a5 c5 w5 ho5 hg5
            have O5 := Lib.hid ho5
            have B5 := Lib.hid (B3.out.trans (grown_below hg5 (B := w2.heap.size) B3.out.size (fun q hq => by have := ZD.out; have := (row_kind O3.out hq).1; omega)))
            clear ho5 hg5
            refine hK.out _ _ (KX.out _ B5.out) (fun hHeld => ?_)
            clear hK K
            try simp only [Act.put, List.setIfInBounds_toArray, List.set_cons_zero, List.set_cons_succ, Nat.zero_add]
            ((refine take_at (i := 17) (v := ?_) rfl (by kernel_rfl) (by kernel_rfl) (by kernel_rfl) (fun _ _ _ h => h) (by rfl) ?_ (by assumption) ?_); rotate_left; (focus (intro wz hSw; (try dsimp only at hSw); obtain ⟨s0, s1, s2⟩ := hSw; go_simp; (try (with_reducible rfl)))); (try simp only [Act.put, List.setIfInBounds_toArray, List.set_cons_zero, List.set_cons_succ]))
            refine wpAnyH_done (by kernel_rfl) ?_ _
            simp only [AtLast]
            obtain ⟨s0, s1, s2⟩ := hHeld
            have sf := KF.out _ B5.out
            go_simp
            go_wp2_with fail
            go_meet
            exact ⟨a5, c5, w5, B5.out, row_le O5.out (by have := ZD.out; omega), rfl⟩
          · exact AllReadyH.nil
        · exact AllReadyH.nil
      · refine cons_at rfl (fun K hK => ?_) ?_
        · go_simp
          have BB : Hid (Below w2.heap.size w2 ((wd.alloc (.cells #[] 116)).alloc (.cells #[.int .i64 N, .bool false, .slice u x.pairs.length cu] 116))) := BA.out.alloc BA.out.size _
          refine hK.out _ _ (KX.out _ BB.out) (fun hHeld => ?_)
          clear hK K
          try simp only [Act.put, List.setIfInBounds_toArray, List.set_cons_zero, List.set_cons_succ, Nat.zero_add]
          refine wpAnyH_ready (rs := [3]) (by kernel_rfl) (by simp) ?_
          refine cons_at rfl (fun K hK => ?_) ?_
          · refine step_app 69 116 Tryz.underlying69 _ 3 40 map_info rfl (by decide) rfl _ _ rfl wd.heap.size _ (.slice (some ⟨wd.heap.size, 0, none⟩) 0 0) 0 [] rfl (((World.ownsRow_lit (base := wd.heap.size) wd #[] 0 (Nat.le_refl _) (by unfold maxLen; omega) rfl)).alloc _) ⟨b, 0, none⟩ g.maps.length c cs rfl R.out.len (src_cells C.out ?hsrc5) R.out.one ?hbase6 (by unfold maxLen; omega) (by omega) ?_
            case hsrc5 => exact (BB.out.block b (Nat.lt_of_lt_of_le hbz BW.out.size)).trans (BW.out.block b hbz)
            case hbase6 => (first | omega | (simp <;> omega))
            intro a3 c3 w3 ho3 hg3
            simp only [Nat.zero_add, List.nil_append] at ho3
            have O3 := Lib.hid ho3
            have hz1 : (wd.alloc (.cells #[] 116)).heap.size = wd.heap.size + 1 := by simp
            have B3 : Hid (Below w2.heap.size w2 w3) := BB.out.grown (B := w2.heap.size) hg3 BB.out.size (fun q hq => by have := ZD.out; have e : wd.heap.size = q := Option.some.inj hq; omega)
            have Z3 : wd.heap.size ≤ w3.heap.size := by have := hg3.size; simp at this; omega
            have N3 : Hid (w3.heap[wd.heap.size + 1]? = some (.cells #[.int .i64 N, .bool false, .slice u x.pairs.length cu] 116 (0, 0))) := (hg3.block _ (by simp <;> omega) (fun e => by have e' : wd.heap.size = wd.heap.size + 1 := (Option.some.inj e).symm; omega)).trans (by rw [← hz1]; exact (heap_alloc _ _).1)
            clear ho3 hg3 hz1
            refine hK.out _ _ (KX.out _ B3.out) (fun hHeld => ?_)
            clear hK K
            try simp only [Act.put, List.setIfInBounds_toArray, List.set_cons_zero, List.set_cons_succ, Nat.zero_add]
            refine wpAnyH_ready (rs := [16]) (by kernel_rfl) (by simp) ?_
            refine cons_at rfl (fun K hK => ?_) ?_
            · refine step_app 69 116 Tryz.underlying69 _ 3 40 map_info rfl (by decide) rfl _ _ rfl wd.heap.size _ (.slice a3 g.maps.length c3) g.maps.length cs rfl O3.out ⟨_, 0, none⟩ 1 1 [.int .i64 N, .bool false, .slice u x.pairs.length cu] rfl rfl (new_cells (T := 116) ?hnew8) (by intro v hv; simp only [List.mem_cons, List.not_mem_nil, or_false] at hv; rcases hv with rfl | rfl | rfl <;> rfl) ?hbase7 (by unfold maxLen; omega) (by omega) ?_
              case hnew8 => exact N3.out
              case hbase7 => (first | omega | (simp <;> omega))
              intro a5 c5 w5 ho5 hg5
              have O5 := Lib.hid ho5
              have B5 := Lib.hid (B3.out.grown (B := w2.heap.size) hg5 B3.out.size (fun q hq => by have := ZD.out; have := (row_kind O3.out hq).1; omega))
              clear ho5 hg5
              refine hK.out _ _ (KX.out _ B5.out) (fun hHeld => ?_)
              clear hK K
              try simp only [Act.put, List.setIfInBounds_toArray, List.set_cons_zero, List.set_cons_succ, Nat.zero_add]
              ((refine take_at (i := 17) (v := ?_) rfl (by kernel_rfl) (by kernel_rfl) (by kernel_rfl) (fun _ _ _ h => h) (by rfl) ?_ (by assumption) ?_); rotate_left; (focus (intro wz hSw; (try dsimp only at hSw); obtain ⟨s0, s1, s2⟩ := hSw; go_simp; (try (with_reducible rfl)))); (try simp only [Act.put, List.setIfInBounds_toArray, List.set_cons_zero, List.set_cons_succ]))
              refine wpAnyH_done (by kernel_rfl) ?_ _
              simp only [AtLast]
              obtain ⟨s0, s1, s2⟩ := hHeld
              have sf := KF.out _ B5.out
              go_simp
              go_wp2_with fail
              go_meet
              exact ⟨a5, c5, w5, B5.out, row_le O5.out (by have := ZD.out; omega), rfl⟩
            · exact AllReadyH.nil
          · exact AllReadyH.nil
        · exact AllReadyH.nil
    · refine cons_at rfl (fun K hK => ?_) ?_
      · go_simp
        have ZA := ZD.out
        have BA : Hid (Below w2.heap.size w2 (wd.alloc (.cells #[.int .i64 N, .bool false, .slice u x.pairs.length cu] 116))) := BD.out.alloc (by omega) _
        clear ZA
        refine hK.out _ _ (KX.out _ BA.out) (fun hHeld => ?_)
        clear hK K
        try simp only [Act.put, List.setIfInBounds_toArray, List.set_cons_zero, List.set_cons_succ, Nat.zero_add]
        refine wpAnyH_ready (rs := [0]) (by kernel_rfl) (by simp) ?_
        refine cons_at rfl (fun K hK => ?_) ?_
        · go_simp
          have BB : Hid (Below w2.heap.size w2 ((wd.alloc (.cells #[.int .i64 N, .bool false, .slice u x.pairs.length cu] 116)).alloc (.cells #[] 116))) := BA.out.alloc BA.out.size _
          have OW : ((wd.alloc (.cells #[.int .i64 N, .bool false, .slice u x.pairs.length cu] 116)).alloc (.cells #[] 116)).ownsRow wd.heap.size 116 3 (.slice (some ⟨wd.heap.size + 1, 0, none⟩) 0 0) 0 [] := by
            have h := World.ownsRow_lit (base := wd.heap.size) (e := 116) (size := 3) (wd.alloc (.cells #[.int .i64 N, .bool false, .slice u x.pairs.length cu] 116)) #[] 0 (by simp) (by unfold maxLen; omega) rfl
            rw [show (wd.alloc (.cells #[.int .i64 N, .bool false, .slice u x.pairs.length cu] 116)).heap.size = wd.heap.size + 1 by simp] at h
            exact h
          refine hK.out _ _ (KX.out _ BB.out) (fun hHeld => ?_)
          clear hK K
          try simp only [Act.put, List.setIfInBounds_toArray, List.set_cons_zero, List.set_cons_succ, Nat.zero_add]
          refine wpAnyH_ready (rs := [3]) (by kernel_rfl) (by simp) ?_
          refine cons_at rfl (fun K hK => ?_) ?_
          · refine step_app 69 116 Tryz.underlying69 _ 3 40 map_info rfl (by decide) rfl _ _ rfl wd.heap.size _ (.slice (some ⟨wd.heap.size + 1, 0, none⟩) 0 0) 0 [] rfl OW ⟨b, 0, none⟩ g.maps.length c cs rfl R.out.len (src_cells C.out ?hsrc9) R.out.one ?hbase10 (by unfold maxLen; omega) (by omega) ?_
            case hsrc9 => exact (BB.out.block b (Nat.lt_of_lt_of_le hbz BW.out.size)).trans (BW.out.block b hbz)
            case hbase10 => (first | omega | (simp <;> omega))
            intro a3 c3 w3 ho3 hg3
            simp only [Nat.zero_add, List.nil_append] at ho3
            have O3 := Lib.hid ho3
            have hz1 : (wd.alloc (.cells #[.int .i64 N, .bool false, .slice u x.pairs.length cu] 116)).heap.size = wd.heap.size + 1 := by simp
            have B3 : Hid (Below w2.heap.size w2 w3) := BB.out.grown (B := w2.heap.size) hg3 BB.out.size (fun q hq => by have := ZD.out; have e : wd.heap.size + 1 = q := Option.some.inj hq; omega)
            have Z3 : wd.heap.size ≤ w3.heap.size := by have := hg3.size; simp at this; omega
            have N3 : Hid (w3.heap[wd.heap.size]? = some (.cells #[.int .i64 N, .bool false, .slice u x.pairs.length cu] 116 (0, 0))) := (hg3.block _ (by simp <;> omega) (fun e => by have e' : wd.heap.size + 1 = wd.heap.size := (Option.some.inj e).symm; omega)).trans ((Below.heap_alloc _ _ _ (by simp)).trans (heap_alloc wd _).1)
            clear ho3 hg3 hz1
            refine hK.out _ _ (KX.out _ B3.out) (fun hHeld => ?_)
            clear hK K
            try simp only [Act.put, List.setIfInBounds_toArray, List.set_cons_zero, List.set_cons_succ, Nat.zero_add]
            refine wpAnyH_ready (rs := [16]) (by kernel_rfl) (by simp) ?_
            refine cons_at rfl (fun K hK => ?_) ?_
            · refine step_app 69 116 Tryz.underlying69 _ 3 40 map_info rfl (by decide) rfl _ _ rfl wd.heap.size _ (.slice a3 g.maps.length c3) g.maps.length cs rfl O3.out ⟨_, 0, none⟩ 1 1 [.int .i64 N, .bool false, .slice u x.pairs.length cu] rfl rfl (new_cells (T := 116) ?hnew12) (by intro v hv; simp only [List.mem_cons, List.not_mem_nil, or_false] at hv; rcases hv with rfl | rfl | rfl <;> rfl) ?hbase11 (by unfold maxLen; omega) (by omega) ?_
              case hnew12 => exact N3.out
              case hbase11 => (first | omega | (simp <;> omega))
              intro a5 c5 w5 ho5 hg5
              have O5 := Lib.hid ho5
              have B5 := Lib.hid (B3.out.grown (B := w2.heap.size) hg5 B3.out.size (fun q hq => by have := ZD.out; have := (row_kind O3.out hq).1; omega))
              clear ho5 hg5
              refine hK.out _ _ (KX.out _ B5.out) (fun hHeld => ?_)
              clear hK K
              try simp only [Act.put, List.setIfInBounds_toArray, List.set_cons_zero, List.set_cons_succ, Nat.zero_add]
              ((refine take_at (i := 17) (v := ?_) rfl (by kernel_rfl) (by kernel_rfl) (by kernel_rfl) (fun _ _ _ h => h) (by rfl) ?_ (by assumption) ?_); rotate_left; (focus (intro wz hSw; (try dsimp only at hSw); obtain ⟨s0, s1, s2⟩ := hSw; go_simp; (try (with_reducible rfl)))); (try simp only [Act.put, List.setIfInBounds_toArray, List.set_cons_zero, List.set_cons_succ]))
              refine wpAnyH_done (by kernel_rfl) ?_ _
              simp only [AtLast]
              obtain ⟨s0, s1, s2⟩ := hHeld
              have sf := KF.out _ B5.out
              go_simp
              go_wp2_with fail
              go_meet
              exact ⟨a5, c5, w5, B5.out, row_le O5.out (by have := ZD.out; omega), rfl⟩
            · exact AllReadyH.nil
          · exact AllReadyH.nil
        · exact AllReadyH.nil
      · exact AllReadyH.nil
  case rest =>
    obtain ⟨u5, c5, w5, hB5, hrow5, rfl⟩ := hcut
    have B5 := Lib.hid (B2.out.trans (hB5.mono B2.out.size))
    have O5 := Lib.hid hrow5
    have L5 := Lib.hid hB5
    clear hB5 hrow5
    obtain ⟨x0, x1, x2, x3⟩ := KE.out _ B5.out
    obtain ⟨y00, y01, y02⟩ := fam_cells x0
    obtain ⟨y10, y11, y12, y13, y14⟩ := op_cells x1
    obtain ⟨r0, r1, r2⟩ := fam_cells x2
    obtain ⟨fr0, fr1, fr2⟩ := fam_free x2
    obtain ⟨t0, t1, t2, t3, t4, t5, t6, t7⟩ := res_cells x3
    obtain ⟨ft0, ft1, ft2, ft3, ft4, ft5, ft6, ft7⟩ := res_free x3
    clear x0 x1 x2 x3
    clear y10 y11 y12 y13 y14
    go_wp2_with fail
    try simp only [Exit.inBlock, Exit.then]
    refine bodyPost_ret (v := .tuple #[rfamV { g with maps := g.maps ++ [⟨N, false, x.pairs⟩] } u5 c5 D d, .agg ({ found := true } : ResD).cells]) (by simp [results, Tryz.results29, go_sem, rfamV, ResD.cells, r0, r1, r2, t0, t1, t2, t3, t4, t5, t6, t7, y00, y01, y02, fr0, fr1, fr2, List.length_append]) rfl ?_
    refine rap_new (n := w2.heap.size) KK.out ?_ BW.out.size ?_ HD.out
    · repeat' (first | (with_reducible refine RFamAt.store ?_ ?_ ?_ _) | (simp only []; have hx := HS.out; have hy := B2.out.size; omega))
      exact snap_fam BW.out HH.out L5.out O5.out R.out MX.out PX.out hmr
    · repeat' (first | (with_reducible exact B0.out.trans (B5.out.mono B0.out.size)) | (with_reducible apply Below.drew) | (with_reducible apply Below.setCell) | (show _ ≤ _; simp only []; omega))
end Go.Proofs.YtbmoehndnbbhcaaGreatDoor
