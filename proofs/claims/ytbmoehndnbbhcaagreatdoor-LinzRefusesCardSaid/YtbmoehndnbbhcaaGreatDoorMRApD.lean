/- The walk of the reference's Apply: an iterator is made. The walk of the reference's Apply: clear, keys, size. -/
import Derived.Test.YtbmoehndnbbhcaaGreatDoorRApB
import Derived.Laws.AppendOwnNone
import Derived.Deep.RegionHeld3
namespace Go.Proofs.YtbmoehndnbbhcaaGreatDoor
set_option linter.unusedVariables false
set_option linter.unusedSimpArgs false
open Go Go.RowKit Go.MapKept
theorem walk_info : (Tryz.prog.info? 120).map (fun i => (i.zero, i.size, i.bytes)) = some (some (.agg #[.int .i64 0, .int .i64 0, .int .i64 0, .int .i64 0]), 4, 32) := by kernel_rfl
theorem step_appv {ops : Array Oper} {o : Oper} {a : Act} {K : Act → World → Prop} {Q : Exit → Act → World → Prop} {E : Prop} (T e : TypeId) (hT : Tryz.prog.underlying T = some (.slice e)) (z : Value) (sz by8 : Nat) (hinfo : (Tryz.prog.info? e).map (fun i => (i.zero, i.size, i.bytes)) = some (some z, sz, by8)) (hz : z.cells.size = sz) (h0 : 0 < sz)
    (hgd : o.guard = none) (s x : Operand) (ho : o.op = .call { callee := .builtin .append, args := #[s, x], argTypes := #[T, T] })
    (B : Nat) (W : World) (v : Value) (n : Nat) (xs : List Value) (hs : a.eval s = v) (hown : W.ownsRow B e sz v n xs) (A : Option Addr) (m c : Nat) (ys : List Value) (hx : a.eval x = .slice A m c) (hA : A = none → m = 0 ∧ c = 0) (hl : ys.length = m * sz)
    (hc : ∀ ad, A = some ad → ∀ j u, ys[j]? = some u → W.cell? (ad.add j) = some u) (h1 : ∀ u ∈ ys, u.oneCell' = true) (hB : B ≤ W.heap.size) (hm : n + m ≤ maxLen) (hlen : (n + m) * by8 ≤ 140737488355328)
    (hK : ∀ v' w', w'.ownsRow B e sz v' (n + m) (xs ++ ys) → W.grownBy w' v.ownBlock → K (a.put o.dst v') w') : if Region.wanted o (yielded ops a.tmps) = true then Oper.wp Tryz.prog o a W K Q else E := by
  cases A with
  | some ad => exact step_app T e hT z sz by8 hinfo hz h0 hgd s x ho B W v n xs hs hown ad m c ys hx hl (hc ad rfl) h1 hB hm hlen fun a' c' w' h2 h3 => hK _ w' h2 h3
  | none =>
    obtain ⟨rfl, rfl⟩ := hA rfl
    obtain ⟨i0, hi, _⟩ := info_parts3 hinfo
    have hw : Region.wanted o (yielded ops a.tmps) = true := by simp [Region.wanted, hgd]
    rw [if_pos hw]
    have hrun := run_append_owned_none (P := Tryz.prog) (w := W) B T o.type e i0 sz hT hi v n xs hown
    have hy : ys = [] := List.length_eq_zero_iff.1 (by rw [hl]; omega)
    subst hy
    unfold Oper.wp execOp
    simp only [ho, resolve, invoke, builtin, Sem.run_bind, Sem.run_pure, Result.andThen_ok, List.map_toArray, List.map_cons, List.map_nil, hs, hx, hrun]
    exact hK v W (by simpa using hown) ⟨rfl, rfl, rfl, Nat.le_refl _, fun _ _ _ => rfl⟩
def wkC (p : Int × IterD) : List Value := [.int .i64 p.1, .int .i64 p.2.thread, .int .i64 p.2.number, .int .i64 p.2.pos]
theorem wk_len (l : List (Int × IterD)) : (l.flatMap wkC).length = l.length * 4 := by
  induction l with
  | nil => rfl
  | cons x r ih => simp [wkC, ih]; omega
theorem wk_one (l : List (Int × IterD)) : ∀ u ∈ l.flatMap wkC, u.oneCell' = true := by
  intro u hu
  obtain ⟨x, _, hx⟩ := List.mem_flatMap.1 hu
  simp only [wkC, List.mem_cons, List.not_mem_nil, or_false] at hx
  rcases hx with rfl | rfl | rfl | rfl <;> rfl
theorem wk_at (l : List (Int × IterD)) (j : Nat) (x : Int × IterD) (hx : l[j]? = some x) (i : Nat) (hi : i < 4) : (l.flatMap wkC)[j * 4 + i]? = (wkC x)[i]? := by
  induction l generalizing j with
  | nil => simp at hx
  | cons y r ih =>
    have e : (wkC y).length = 4 := rfl
    rw [List.flatMap_cons]
    cases j with
    | zero =>
      simp only [List.getElem?_cons_zero, Option.some.injEq] at hx
      subst hx
      rw [List.getElem?_append_left (by rw [e]; omega)]
      simp
    | succ j =>
      have := ih j (by simpa using hx)
      rw [List.getElem?_append_right (by rw [e]; omega), e, show (j + 1) * 4 + i - 4 = j * 4 + i by omega]
      exact this
/-- the cells of walks that are read -/
theorem wk_cells {T : Nat → Prop} {w : World} {D : Option Addr} {ws : List (Int × IterD)} (h : WlkAt T w D ws) : ∀ ad, D = some ad → ∀ j u, (ws.flatMap wkC)[j]? = some u → w.cell? (ad.add j) = some u := by
  intro ad had j u hu
  have hj : j < ws.length * 4 := by rw [← wk_len]; exact (List.getElem?_eq_some_iff.1 hu).1
  obtain ⟨b, hD, _, _, hc⟩ := h (by omega)
  rw [had] at hD
  obtain rfl := Option.some.inj hD
  rw [raddr]
  obtain ⟨x, hx⟩ : ∃ x, ws[j / 4]? = some x := ⟨_, List.getElem?_eq_getElem (by omega)⟩
  obtain ⟨c0, c1, c2, c3⟩ := hc (j / 4) x hx
  have hr : j % 4 < 4 := Nat.mod_lt _ (by omega)
  have he : j = j / 4 * 4 + j % 4 := by omega
  have hw := wk_at ws (j / 4) x hx (j % 4) hr
  rw [← he, hu] at hw
  have : j % 4 = 0 ∨ j % 4 = 1 ∨ j % 4 = 2 ∨ j % 4 = 3 := by omega
  rcases this with e | e | e | e
  · rw [e] at hw he
    rw [he, Nat.add_zero, c0, hw]; rfl
  · rw [e] at hw he
    rw [he, c1, hw]; rfl
  · rw [e] at hw he
    rw [he, c2, hw]; rfl
  · rw [e] at hw he
    rw [he, c3, hw]; rfl
theorem row_walks {T : Nat → Prop} {w : World} {B n c : Nat} {A : Option Addr} {ws : List (Int × IterD)} (h : w.ownsRow B 120 4 (.slice A n c) n (ws.flatMap wkC)) (hn : n = ws.length) (hT : ∀ b, B ≤ b → b < w.heap.size → T b) : WlkAt T w A ws := fun h0 => by
  obtain ⟨g, cap, hv⟩ := row_some h (by omega)
  simp only [Value.slice.injEq, true_and] at hv
  obtain ⟨rfl, rfl⟩ := hv
  refine ⟨g, rfl, hT g (row_kind h (g := g) rfl).1 (row_lt h rfl), row_lt h rfl, fun i d hd => ?_⟩
  have hw := fun k hk => wk_at ws i d hd k hk
  have d0 := h.cells (g := g) rfl (i * 4 + 0) _ (hw 0 (by omega))
  have d1 := h.cells (g := g) rfl (i * 4 + 1) _ (hw 1 (by omega))
  have d2 := h.cells (g := g) rfl (i * 4 + 2) _ (hw 2 (by omega))
  have d3 := h.cells (g := g) rfl (i * 4 + 3) _ (hw 3 (by omega))
  rw [raddr] at d0 d1 d2 d3
  exact ⟨d0, d1, d2, d3⟩
theorem RFit.walk {g : RFam} (h : RFit g) (n : Int) (t m : Int) (hr : g.walks.length < 1048576) : RFit { g with walks := g.walks ++ [(n, ⟨t, m, 0⟩)] } := by
  refine ⟨h.m0, h.m1, h.lm, by simp; omega, h.lp, h.keys, fun p hp => ?_⟩
  rcases List.mem_append.1 hp with hp | hp
  · exact h.pos p hp
  · obtain rfl := List.mem_singleton.1 hp
    exact ⟨by simp, by simp⟩
/-- what region 15 leaves: a new row of walks, in the family's box -/
def WalkMid (w w2 : World) (n : Nat) (cs : List Value) (wx : World) : Prop :=
  ∃ (u5 : Option Addr) (c5 : Nat) (w5 : World), Below w2.heap.size w2 w5 ∧ w5.ownsRow w2.heap.size 120 4 (.slice u5 n c5) n cs ∧ wx = w5.setCell ⟨w.heap.size, 2, none⟩ (.slice u5 n c5)
theorem walk_fam {T : Nat → Prop} {w w2 w5 : World} {A D u5 : Option Addr} {g : RFam} {c5 : Nat} {N t m : Int} (hw2 : Below w.heap.size w w2) (hh : RFamAt T w A D g) (hb5 : Below w2.heap.size w2 w5)
    (hrow : w5.ownsRow w2.heap.size 120 4 (.slice u5 (g.walks.length + 1) c5) (g.walks.length + 1) (g.walks.flatMap wkC ++ [.int .i64 N, .int .i64 t, .int .i64 m, .int .i64 0])) (hm : g.walks.length < 1048576) :
    RFamAt (OldNew T w w2.heap.size) w5 A u5 { g with walks := g.walks ++ [(N, ⟨t, m, 0⟩)] } ∧ (u5 = none → c5 = 0) := by
  have hk : Kept (fun b => T b ∧ b < w.heap.size) w w5 := Kept.of_below (hw2.trans (hb5.mono hw2.size))
  refine ⟨⟨(hh.low.maps.keep hk).more fun _ h => Or.inl h, ?_, hh.fit.walk N t m hm⟩, fun hu => ?_⟩
  · refine row_walks (B := w2.heap.size) (c := c5) (n := g.walks.length + 1) ?_ (by simp) (fun q h1 h2 => Or.inr h1)
    have e : (g.walks ++ [(N, (⟨t, m, 0⟩ : IterD))]).flatMap wkC = g.walks.flatMap wkC ++ [.int .i64 N, .int .i64 t, .int .i64 m, .int .i64 0] := by simp [wkC]
    rw [e]
    exact hrow
  · obtain ⟨q, cap, hv⟩ := row_some hrow (by omega)
    simp only [Value.slice.injEq, true_and] at hv
    rw [hv.1] at hu
    cases hu
set_option maxRecDepth 100000 in
set_option maxHeartbeats 2000000 in
theorem rapply_iter (T : Nat → Prop) (w : World) (A D : Option Addr) (c d : Nat) (g : RFam) (h : RFamAt T w A D g) (t i : Int) (ht : -9223372036854775808 ≤ t ∧ t ≤ 9223372036854775807) (hi : -9223372036854775808 ≤ i ∧ i ≤ 9223372036854775807) (o : OpD) (hkey : o.key.size ≤ maxLen) (hd0 : D = none → d = 0) (hz : refusedR g t i o = 0) (h8 : o.kind = 12) (hmr : g.walks.length < 1048576) :
    Calls Tryz.prog 29 #[rfamV g A c D d, .int .i64 t, .int .i64 i, o.val] w (RApPost T w (applyR g t i o)) := by
  obtain ⟨okind, ohandle, okey, ovalue, oexpect⟩ := o
  simp only at h8
  subst h8
  obtain ⟨W0, hW0⟩ : ∃ W0, W0 = keyW w (.cells #[.int .u64 g.mask, .slice A g.maps.length c, .slice D g.walks.length d] 72) (.cells #[.int .i64 12, .int .i64 ohandle, .string okey, .int .u64 ovalue, .int .u64 oexpect] 60) (.cells #[.int .u64 0, .slice none 0 0, .slice none 0 0] 72) (.cells #[.int .i64 0, .bool false, .int .u64 0, .string ⟨#[]⟩, .int .i64 0, .int .i64 0, .int .i64 0, .bool false] 45) := ⟨_, rfl⟩
  have hb0 : Below w.heap.size w W0 := hW0 ▸ keyW_below _ _ _ _ _
  have hs0 : W0.heap.size = w.heap.size + 1 + 1 + 1 + 1 := hW0 ▸ keyW_size _ _ _ _ _
  have hk0 : W0.heap[w.heap.size]? = some (.cells #[.int .u64 g.mask, .slice A g.maps.length c, .slice D g.walks.length d] 72) := hW0 ▸ keyW_0 _ _ _ _ _
  have hk1 : W0.heap[w.heap.size + 1]? = some (.cells #[.int .i64 12, .int .i64 ohandle, .string okey, .int .u64 ovalue, .int .u64 oexpect] 60) := hW0 ▸ keyW_1 _ _ _ _ _
  have hk2 : W0.heap[w.heap.size + 1 + 1]? = some (.cells #[.int .u64 0, .slice none 0 0, .slice none 0 0] 72) := hW0 ▸ keyW_2 _ _ _ _ _
  have hk3 : W0.heap[w.heap.size + 1 + 1 + 1]? = some (.cells #[.int .i64 0, .bool false, .int .u64 0, .string ⟨#[]⟩, .int .i64 0, .int .i64 0, .int .i64 0, .bool false] 45) := hW0 ▸ keyW_3 _ _ _ _ _
  have KE := Lib.hid (fun W (hb : Below W0.heap.size W0 W) => apply_boxes hs0 hk0 hk1 hk2 hk3 hb)
  have H0 := h.below hb0
  have FI : Hid (∀ n W, Below W0.heap.size W0 W → Calls Tryz.prog 51 #[.agg #[.int .u64 g.mask, .slice A g.maps.length c, .slice D g.walks.length d], .int .i64 n] W fun e w' => e = .returned (.int .i64 (idxO (findM g.maps n))) ∧ Below W0.heap.size W0 w') := fun n W hb => (find_any T W A D c d g (H0.below hb) n).mono fun e w' p => lift_below hb p
  have NU : Hid (∀ W, Calls Tryz.prog 50 #[.int .i64 t, .int .i64 i] W fun e w' => e = .returned (.int .i64 (numberOf t i)) ∧ W = w') := fun W => refnum_any t i W ht hi
  have RE := Lib.hid (refused_any T W0 A D c d g H0 t i ht hi ⟨12, ohandle, okey, ovalue, oexpect⟩ hkey)
  have HR := Lib.hid H0
  have HB := Lib.hid (Below.refl W0.heap.size W0)
  have hW1 := hW0
  unfold keyW at hW1
  have HW := Lib.hid hW1
  have B0 := Lib.hid hb0
  have HS := Lib.hid hs0
  have HT := Lib.hid ht
  have HI := Lib.hid hi
  have HM := Lib.hid hkey
  have HH := Lib.hid h
  have HD := Lib.hid hd0
  clear hb0 hs0 hk0 hk1 hk2 hk3 hW0 hW1 H0 h ht hi hkey hd0
  simp only [rfamV, OpD.val] at RE ⊢
  generalize hER : refusedR g t i ⟨12, ohandle, okey, ovalue, oexpect⟩ = er at *
  have ER := Lib.hid hER
  clear hER
  go_enter Tryz.func29, Tryz.ntmps29
  go_upto_region 1 with fail
  rw [← HW.out]
  obtain ⟨x0, x1, x2, x3⟩ := KE.out _ HB.out
  have y0 := fam_cells x0
  have y1 := op_cells x1
  obtain ⟨y00, y01, y02⟩ := y0
  obtain ⟨y10, y11, y12, y13, y14⟩ := y1
  clear x0 x1 x2 x3
  go_wp2_with fail
  refine RE.out.mono ?_
  rintro e w1 ⟨rfl, hb1⟩
  have B1 := Lib.hid hb1
  clear y00 y01 y02 y10 y11 y12 y13 y14 hb1 RE
  subst hz
  have RN := refusedR_none ER.out
  obtain ⟨_, _, hsome, _, _, _⟩ := RN
  obtain ⟨q, hq⟩ := Option.isSome_iff_exists.1 (hsome (by simp))
  simp only at hq
  have KK := Lib.hid (show applyR g t i ⟨12, ohandle, okey, ovalue, oexpect⟩ = ({ g with walks := g.walks ++ [(numberOf t i, ⟨t, ohandle, 0⟩)] }, { found := true }) by
    unfold applyR
    rw [if_neg (by rw [ER.out]; simp), if_neg (by simp), hq]
    rfl)
  have hlw := HH.out.fit.lw
  have DN : Hid (D = none → g.walks.length = 0 ∧ d = 0) := fun e => by
    refine ⟨?_, HD.out e⟩
    rcases Nat.eq_zero_or_pos g.walks.length with h0 | h0
    · exact h0
    · obtain ⟨b, hb, _⟩ := HH.out.walks h0
      rw [e] at hb
      cases hb
  have WS := Lib.hid (wk_cells HH.out.walks)
  have WB := Lib.hid HH.out.walks
  generalize hN : numberOf t i = N at *
  clear hN hq hsome
  obtain ⟨x0, x1, x2, x3⟩ := KE.out _ B1.out
  obtain ⟨y00, y01, y02⟩ := fam_cells x0
  obtain ⟨y10, y11, y12, y13, y14⟩ := op_cells x1
  clear x0 x1 x2 x3 y13 y14
  go_upto_region 4 with fail
  refine wp_region_class (C := fun W => Below W0.heap.size W0 W) (by kernel_rfl) (by kernel_rfl) B1.out.drew ?_
  clear y00 y01 y02 y10 y11 y12
  repeat (first | go_big_quiet_step (fail) | (refine' wpQuiet_take (by kernel_rfl) (fun W hW => ?_) ?_; rotate_left; (obtain ⟨x0, x1, _, _⟩ := KE.out W hW); (obtain ⟨y0, y1, y2⟩ := fam_cells x0); (obtain ⟨p0, p1, p2, _, _⟩ := op_cells x1); clear x0 x1; go_simp; (first | rfl | (with_reducible exact FI.out _ _ hW) | (with_reducible exact (NU.out W).mono (fun e w' p => ⟨p.1, p.2 ▸ hW⟩))); (simp only [Act.put, List.setIfInBounds_toArray, List.set_cons_zero, List.set_cons_succ])))
  refine wpQuiet_nil ?_
  intro w2 hb2
  have B2 := Lib.hid hb2
  have BW := Lib.hid (B0.out.trans (hb2.mono B0.out.size))
  clear hb2 B1 HB
  obtain ⟨x0, x1, x2, x3⟩ := KE.out _ B2.out
  obtain ⟨y00, y01, y02⟩ := fam_cells x0
  obtain ⟨y10, y11, y12, y13, y14⟩ := op_cells x1
  obtain ⟨r0, r1, r2⟩ := fam_cells x2
  obtain ⟨fr0, fr1, fr2⟩ := fam_free x2
  obtain ⟨t0, t1, t2, t3, t4, t5, t6, t7⟩ := res_cells x3
  obtain ⟨ft0, ft1, ft2, ft3, ft4, ft5, ft6, ft7⟩ := res_free x3
  clear x0 x1 x2 x3
  go_upto_region 15 with fail
  have fz2 : w2.frozen? ⟨w.heap.size, 2, none⟩ = false := (fam_free (KE.out _ B2.out).1).2.2
  have KX : Hid (∀ W, Below w2.heap.size w2 W → (W.cell? ⟨w.heap.size, 2, none⟩ = some (.slice D g.walks.length d) ∧ W.cell? ⟨w.heap.size + 1, 0, none⟩ = some (.int .i64 12) ∧ W.cell? ⟨w.heap.size + 1, 1, none⟩ = some (.int .i64 ohandle))) := fun W hb => ⟨(hb.cell (p := ⟨_, _, none⟩) (World.block_lt_of_cell? w2 _ y02)).trans y02, (hb.cell (p := ⟨_, _, none⟩) (World.block_lt_of_cell? w2 _ y10)).trans y10, (hb.cell (p := ⟨_, _, none⟩) (World.block_lt_of_cell? w2 _ y11)).trans y11⟩
  have KF : Hid (∀ W, Below w2.heap.size w2 W → W.frozen? ⟨w.heap.size, 2, none⟩ = false) := fun W hb => (hb.frozen (p := ⟨_, _, none⟩) (World.block_lt_of_cell? w2 _ y02)).trans fz2
  have SRC : Hid (∀ W, Below w2.heap.size w2 W → ∀ ad, D = some ad → ∀ j u, (g.walks.flatMap wkC)[j]? = some u → W.cell? (ad.add j) = some u) := fun W hb => wk_cells (WB.out.keep (Kept.of_below (BW.out.trans (hb.mono BW.out.size))))
  have BD : Hid (Below w2.heap.size w2 w2.drew) := (Below.refl _ _).drew
  clear y00 y01 y02 y10 y11 y12 y13 y14 fz2 r0 r1 r2 t0 t1 t2 t3 t4 t5 t6 t7 fr0 fr1 fr2 ft0 ft1 ft2 ft3 ft4 ft5 ft6 ft7
  go_cut [] (fun wx => WalkMid w w2 (g.walks.length + 1) (g.walks.flatMap wkC ++ [.int .i64 N, .int .i64 t, .int .i64 ohandle, .int .i64 0]) wx)
  case first =>
    refine wp_region_last_lit (fun W => (W.cell? ⟨w.heap.size, 2, none⟩ = some (.slice D g.walks.length d) ∧ W.cell? ⟨w.heap.size + 1, 0, none⟩ = some (.int .i64 12) ∧ W.cell? ⟨w.heap.size + 1, 1, none⟩ = some (.int .i64 ohandle))) 12 (by kernel_rfl) rfl rfl (by kernel_rfl) (KX.out _ BD.out) (fun hHeld => ?_)
    simp only [List.dropLast_cons_cons, List.dropLast_singleton, List.length_cons, List.length_nil, Nat.zero_add, Nat.reduceAdd]
    ((refine take_at (i := 1) (v := ?_) rfl (by kernel_rfl) (by kernel_rfl) (by kernel_rfl) (fun _ _ _ h => h) (by rfl) ?_ (by assumption) ?_); rotate_left; (focus (intro wz hSw; (try dsimp only at hSw); obtain ⟨s0, s1, s2⟩ := hSw; go_simp; (try (with_reducible rfl)))); (try simp only [Act.put, List.setIfInBounds_toArray, List.set_cons_zero, List.set_cons_succ]))
    ((refine take_at (i := 2) (v := ?_) rfl (by kernel_rfl) (by kernel_rfl) (by kernel_rfl) (fun _ _ _ h => h) (by rfl) ?_ (by assumption) ?_); rotate_left; (focus (intro wz hSw; (try dsimp only at hSw); obtain ⟨s0, s1, s2⟩ := hSw; go_simp; (try (with_reducible rfl)))); (try simp only [Act.put, List.setIfInBounds_toArray, List.set_cons_zero, List.set_cons_succ]))
    ((refine take_at (i := 4) (v := ?_) rfl (by kernel_rfl) (by kernel_rfl) (by kernel_rfl) (fun _ _ _ h => h) (by rfl) ?_ (by assumption) ?_); rotate_left; (focus (intro wz hSw; (try dsimp only at hSw); obtain ⟨s0, s1, s2⟩ := hSw; go_simp; (try (with_reducible rfl)))); (try simp only [Act.put, List.setIfInBounds_toArray, List.set_cons_zero, List.set_cons_succ]))
    ((refine take_at (i := 5) (v := ?_) rfl (by kernel_rfl) (by kernel_rfl) (by kernel_rfl) (fun _ _ _ h => h) (by rfl) ?_ (by assumption) ?_); rotate_left; (focus (intro wz hSw; (try dsimp only at hSw); obtain ⟨s0, s1, s2⟩ := hSw; go_simp; (try (with_reducible rfl)))); (try simp only [Act.put, List.setIfInBounds_toArray, List.set_cons_zero, List.set_cons_succ]))
    ((refine take_at (i := 6) (v := ?_) rfl (by kernel_rfl) (by kernel_rfl) (by kernel_rfl) (fun _ _ _ h => h) (by rfl) ?_ (by assumption) ?_); rotate_left; (focus (intro wz hSw; (try dsimp only at hSw); obtain ⟨s0, s1, s2⟩ := hSw; go_simp; (try (with_reducible rfl)))); (try simp only [Act.put, List.setIfInBounds_toArray, List.set_cons_zero, List.set_cons_succ]))
    ((refine take_at (i := 7) (v := ?_) rfl (by kernel_rfl) (by kernel_rfl) (by kernel_rfl) (fun _ _ _ h => h) (by rfl) ?_ (by assumption) ?_); rotate_left; (focus (intro wz hSw; (try dsimp only at hSw); obtain ⟨s0, s1, s2⟩ := hSw; go_simp; (try (with_reducible rfl)))); (try simp only [Act.put, List.setIfInBounds_toArray, List.set_cons_zero, List.set_cons_succ]))
    ((refine take_at (i := 8) (v := ?_) rfl (by kernel_rfl) (by kernel_rfl) (by kernel_rfl) (fun _ _ _ h => h) (by rfl) ?_ (by assumption) ?_); rotate_left; (focus (intro wz hSw; (try dsimp only at hSw); obtain ⟨s0, s1, s2⟩ := hSw; go_simp; (try (with_reducible rfl)))); (try simp only [Act.put, List.setIfInBounds_toArray, List.set_cons_zero, List.set_cons_succ]))
    have ZD : Hid (w2.drew.heap.size = w2.heap.size) := Lib.hid rfl
    generalize w2.drew = wd at *
    refine wpAnyH_ready (rs := [0, 9]) (by kernel_rfl) (by simp) ?_
    refine cons_at rfl (fun K hK => ?_) ?_
    · go_simp
      have ZA := ZD.out
      have BA : Hid (Below w2.heap.size w2 (wd.alloc (.cells #[] 120))) := BD.out.alloc (by omega) _
      clear ZA
      refine hK.out _ _ (KX.out _ BA.out) (fun hHeld => ?_)
      clear hK K
      try simp only [Act.put, List.setIfInBounds_toArray, List.set_cons_zero, List.set_cons_succ, Nat.zero_add]
      refine wpAnyH_ready (rs := [3, 9]) (by kernel_rfl) (by simp) ?_
      refine cons_at rfl (fun K hK => ?_) ?_
      · refine step_appv 70 120 Tryz.underlying70 _ 4 32 walk_info rfl (by decide) rfl _ _ rfl wd.heap.size _ (.slice (some ⟨wd.heap.size, 0, none⟩) 0 0) 0 [] rfl (World.ownsRow_lit (base := wd.heap.size) wd #[] 0 (Nat.le_refl _) (by unfold maxLen; omega) rfl) D g.walks.length d (g.walks.flatMap wkC) rfl DN.out (wk_len _) ?hsrc1 (wk_one _) ?hbase2 (by unfold maxLen; omega) (by omega) ?_
        case hsrc1 => exact SRC.out _ BA.out
        case hbase2 => (first | omega | (simp <;> omega))
        intro v3 w3 ho3 hg3
        simp only [Nat.zero_add, List.nil_append] at ho3
        obtain ⟨a3, c3, rfl⟩ := row_form ho3
        have O3 := Lib.hid ho3
        have B3 := Lib.hid (BD.out.trans (grown_below hg3 (B := w2.heap.size) (by have := ZD.out; omega) (fun q hq => by have := ZD.out; have e : wd.heap.size = q := Option.some.inj hq; omega)))
        have Z3 : wd.heap.size ≤ w3.heap.size := by have := hg3.size; simp at this; omega
        clear ho3 hg3
        refine hK.out _ _ (KX.out _ B3.out) (fun hHeld => ?_)
        clear hK K
        try simp only [Act.put, List.setIfInBounds_toArray, List.set_cons_zero, List.set_cons_succ, Nat.zero_add]
        refine wpAnyH_ready (rs := [9]) (by kernel_rfl) (by simp) ?_
        refine cons_at rfl (fun K hK => ?_) ?_
        · go_simp
          have BB : Hid (Below w2.heap.size w2 (w3.alloc (.cells #[.int .i64 N, .int .i64 t, .int .i64 ohandle, .int .i64 0] 120))) := B3.out.alloc B3.out.size _
          refine hK.out _ _ (KX.out _ BB.out) (fun hHeld => ?_)
          clear hK K
          try simp only [Act.put, List.setIfInBounds_toArray, List.set_cons_zero, List.set_cons_succ, Nat.zero_add]
          refine wpAnyH_ready (rs := [10]) (by kernel_rfl) (by simp) ?_
          refine cons_at rfl (fun K hK => ?_) ?_
          · refine step_app 70 120 Tryz.underlying70 _ 4 32 walk_info rfl (by decide) rfl _ _ rfl wd.heap.size _ (.slice a3 g.walks.length c3) g.walks.length (g.walks.flatMap wkC) rfl (O3.out.alloc _) ⟨_, 0, none⟩ 1 1 [.int .i64 N, .int .i64 t, .int .i64 ohandle, .int .i64 0] rfl rfl (new_cells (T := 120) ?hnew4) (by intro v hv; simp only [List.mem_cons, List.not_mem_nil, or_false] at hv; rcases hv with rfl | rfl | rfl | rfl <;> rfl) ?hbase3 (by unfold maxLen; omega) (by omega) ?_
            case hnew4 => exact (heap_alloc w3 _).1
            case hbase3 => (first | omega | (simp <;> omega))
            intro a5 c5 w5 ho5 hg5
            have O5 := Lib.hid ho5
            have B5 := Lib.hid (B3.out.trans (grown_below hg5 (B := w2.heap.size) B3.out.size (fun q hq => by have := ZD.out; have := (row_kind O3.out hq).1; omega)))
            clear ho5 hg5
            refine hK.out _ _ (KX.out _ B5.out) (fun hHeld => ?_)
            clear hK K
            try simp only [Act.put, List.setIfInBounds_toArray, List.set_cons_zero, List.set_cons_succ, Nat.zero_add]
            ((refine take_at (i := 11) (v := ?_) rfl (by kernel_rfl) (by kernel_rfl) (by kernel_rfl) (fun _ _ _ h => h) (by rfl) ?_ (by assumption) ?_); rotate_left; (focus (intro wz hSw; (try dsimp only at hSw); obtain ⟨s0, s1, s2⟩ := hSw; go_simp; (try (with_reducible rfl)))); (try simp only [Act.put, List.setIfInBounds_toArray, List.set_cons_zero, List.set_cons_succ]))
            refine wpAnyH_done (by kernel_rfl) ?_ _
            simp only [AtLast]
            obtain ⟨s0, s1, s2⟩ := hHeld
            have sf := KF.out _ B5.out
            go_simp
            go_wp2_with fail
            go_meet
            exact ⟨a5, c5, w5, B5.out, row_le O5.out (by have := ZD.out; omega), rfl⟩
          · exact AllReadyH.nil
        · exact AllReadyH.nil
      · refine cons_at rfl (fun K hK => ?_) ?_
        · go_simp
          have BB : Hid (Below w2.heap.size w2 ((wd.alloc (.cells #[] 120)).alloc (.cells #[.int .i64 N, .int .i64 t, .int .i64 ohandle, .int .i64 0] 120))) := BA.out.alloc BA.out.size _
          refine hK.out _ _ (KX.out _ BB.out) (fun hHeld => ?_)
          clear hK K
          try simp only [Act.put, List.setIfInBounds_toArray, List.set_cons_zero, List.set_cons_succ, Nat.zero_add]
          refine wpAnyH_ready (rs := [3]) (by kernel_rfl) (by simp) ?_
          refine cons_at rfl (fun K hK => ?_) ?_
          · refine step_appv 70 120 Tryz.underlying70 _ 4 32 walk_info rfl (by decide) rfl _ _ rfl wd.heap.size _ (.slice (some ⟨wd.heap.size, 0, none⟩) 0 0) 0 [] rfl (((World.ownsRow_lit (base := wd.heap.size) wd #[] 0 (Nat.le_refl _) (by unfold maxLen; omega) rfl)).alloc _) D g.walks.length d (g.walks.flatMap wkC) rfl DN.out (wk_len _) ?hsrc5 (wk_one _) ?hbase6 (by unfold maxLen; omega) (by omega) ?_
            case hsrc5 => exact SRC.out _ BB.out
            case hbase6 => (first | omega | (simp <;> omega))
            intro v3 w3 ho3 hg3
            simp only [Nat.zero_add, List.nil_append] at ho3
            obtain ⟨a3, c3, rfl⟩ := row_form ho3
            have O3 := Lib.hid ho3
            have hz1 : (wd.alloc (.cells #[] 120)).heap.size = wd.heap.size + 1 := by simp
            have B3 : Hid (Below w2.heap.size w2 w3) := BB.out.grown (B := w2.heap.size) hg3 BB.out.size (fun q hq => by have := ZD.out; have e : wd.heap.size = q := Option.some.inj hq; omega)
            have Z3 : wd.heap.size ≤ w3.heap.size := by have := hg3.size; simp at this; omega
            have N3 : Hid (w3.heap[wd.heap.size + 1]? = some (.cells #[.int .i64 N, .int .i64 t, .int .i64 ohandle, .int .i64 0] 120 (0, 0))) := (hg3.block _ (by simp <;> omega) (fun e => by have e' : wd.heap.size = wd.heap.size + 1 := (Option.some.inj e).symm; omega)).trans (by rw [← hz1]; exact (heap_alloc _ _).1)
            clear ho3 hg3 hz1
            refine hK.out _ _ (KX.out _ B3.out) (fun hHeld => ?_)
            clear hK K
            try simp only [Act.put, List.setIfInBounds_toArray, List.set_cons_zero, List.set_cons_succ, Nat.zero_add]
            refine wpAnyH_ready (rs := [10]) (by kernel_rfl) (by simp) ?_
            refine cons_at rfl (fun K hK => ?_) ?_
            · refine step_app 70 120 Tryz.underlying70 _ 4 32 walk_info rfl (by decide) rfl _ _ rfl wd.heap.size _ (.slice a3 g.walks.length c3) g.walks.length (g.walks.flatMap wkC) rfl O3.out ⟨_, 0, none⟩ 1 1 [.int .i64 N, .int .i64 t, .int .i64 ohandle, .int .i64 0] rfl rfl (new_cells (T := 120) ?hnew8) (by intro v hv; simp only [List.mem_cons, List.not_mem_nil, or_false] at hv; rcases hv with rfl | rfl | rfl | rfl <;> rfl) ?hbase7 (by unfold maxLen; omega) (by omega) ?_
              case hnew8 => exact N3.out
              case hbase7 => (first | omega | (simp <;> omega))
              intro a5 c5 w5 ho5 hg5
              have O5 := Lib.hid ho5
              have B5 := Lib.hid (B3.out.grown (B := w2.heap.size) hg5 B3.out.size (fun q hq => by have := ZD.out; have := (row_kind O3.out hq).1; omega))
              clear ho5 hg5
              refine hK.out _ _ (KX.out _ B5.out) (fun hHeld => ?_)
              clear hK K
              try simp only [Act.put, List.setIfInBounds_toArray, List.set_cons_zero, List.set_cons_succ, Nat.zero_add]
              ((refine take_at (i := 11) (v := ?_) rfl (by kernel_rfl) (by kernel_rfl) (by kernel_rfl) (fun _ _ _ h => h) (by rfl) ?_ (by assumption) ?_); rotate_left; (focus (intro wz hSw; (try dsimp only at hSw); obtain ⟨s0, s1, s2⟩ := hSw; go_simp; (try (with_reducible rfl)))); (try simp only [Act.put, List.setIfInBounds_toArray, List.set_cons_zero, List.set_cons_succ]))
              refine wpAnyH_done (by kernel_rfl) ?_ _
              simp only [AtLast]
              obtain ⟨s0, s1, s2⟩ := hHeld
              have sf := KF.out _ B5.out
              go_simp
              go_wp2_with fail
              go_meet
              exact ⟨a5, c5, w5, B5.out, row_le O5.out (by have := ZD.out; omega), rfl⟩
            · exact AllReadyH.nil
          · exact AllReadyH.nil
        · exact AllReadyH.nil
    · refine cons_at rfl (fun K hK => ?_) ?_
      · go_simp
        have ZA := ZD.out
        have BA : Hid (Below w2.heap.size w2 (wd.alloc (.cells #[.int .i64 N, .int .i64 t, .int .i64 ohandle, .int .i64 0] 120))) := BD.out.alloc (by omega) _
        clear ZA
        refine hK.out _ _ (KX.out _ BA.out) (fun hHeld => ?_)
        clear hK K
        try simp only [Act.put, List.setIfInBounds_toArray, List.set_cons_zero, List.set_cons_succ, Nat.zero_add]
        refine wpAnyH_ready (rs := [0]) (by kernel_rfl) (by simp) ?_
        refine cons_at rfl (fun K hK => ?_) ?_
        · go_simp
          have BB : Hid (Below w2.heap.size w2 ((wd.alloc (.cells #[.int .i64 N, .int .i64 t, .int .i64 ohandle, .int .i64 0] 120)).alloc (.cells #[] 120))) := BA.out.alloc BA.out.size _
          have OW : ((wd.alloc (.cells #[.int .i64 N, .int .i64 t, .int .i64 ohandle, .int .i64 0] 120)).alloc (.cells #[] 120)).ownsRow wd.heap.size 120 4 (.slice (some ⟨wd.heap.size + 1, 0, none⟩) 0 0) 0 [] := by
            have h := World.ownsRow_lit (base := wd.heap.size) (e := 120) (size := 4) (wd.alloc (.cells #[.int .i64 N, .int .i64 t, .int .i64 ohandle, .int .i64 0] 120)) #[] 0 (by simp) (by unfold maxLen; omega) rfl
            rw [show (wd.alloc (.cells #[.int .i64 N, .int .i64 t, .int .i64 ohandle, .int .i64 0] 120)).heap.size = wd.heap.size + 1 by simp] at h
            exact h
          refine hK.out _ _ (KX.out _ BB.out) (fun hHeld => ?_)
          clear hK K
          try simp only [Act.put, List.setIfInBounds_toArray, List.set_cons_zero, List.set_cons_succ, Nat.zero_add]
          refine wpAnyH_ready (rs := [3]) (by kernel_rfl) (by simp) ?_
          refine cons_at rfl (fun K hK => ?_) ?_
          · refine step_appv 70 120 Tryz.underlying70 _ 4 32 walk_info rfl (by decide) rfl _ _ rfl wd.heap.size _ (.slice (some ⟨wd.heap.size + 1, 0, none⟩) 0 0) 0 [] rfl OW D g.walks.length d (g.walks.flatMap wkC) rfl DN.out (wk_len _) ?hsrc9 (wk_one _) ?hbase10 (by unfold maxLen; omega) (by omega) ?_
            case hsrc9 => exact SRC.out _ BB.out
            case hbase10 => (first | omega | (simp <;> omega))
            intro v3 w3 ho3 hg3
            simp only [Nat.zero_add, List.nil_append] at ho3
            obtain ⟨a3, c3, rfl⟩ := row_form ho3
            have O3 := Lib.hid ho3
            have hz1 : (wd.alloc (.cells #[.int .i64 N, .int .i64 t, .int .i64 ohandle, .int .i64 0] 120)).heap.size = wd.heap.size + 1 := by simp
            have B3 : Hid (Below w2.heap.size w2 w3) := BB.out.grown (B := w2.heap.size) hg3 BB.out.size (fun q hq => by have := ZD.out; have e : wd.heap.size + 1 = q := Option.some.inj hq; omega)
            have Z3 : wd.heap.size ≤ w3.heap.size := by have := hg3.size; simp at this; omega
            have N3 : Hid (w3.heap[wd.heap.size]? = some (.cells #[.int .i64 N, .int .i64 t, .int .i64 ohandle, .int .i64 0] 120 (0, 0))) := (hg3.block _ (by simp <;> omega) (fun e => by have e' : wd.heap.size + 1 = wd.heap.size := (Option.some.inj e).symm; omega)).trans ((Below.heap_alloc _ _ _ (by simp)).trans (heap_alloc wd _).1)
            clear ho3 hg3 hz1
            refine hK.out _ _ (KX.out _ B3.out) (fun hHeld => ?_)
            clear hK K
            try simp only [Act.put, List.setIfInBounds_toArray, List.set_cons_zero, List.set_cons_succ, Nat.zero_add]
            refine wpAnyH_ready (rs := [10]) (by kernel_rfl) (by simp) ?_
            refine cons_at rfl (fun K hK => ?_) ?_
            · refine step_app 70 120 Tryz.underlying70 _ 4 32 walk_info rfl (by decide) rfl _ _ rfl wd.heap.size _ (.slice a3 g.walks.length c3) g.walks.length (g.walks.flatMap wkC) rfl O3.out ⟨_, 0, none⟩ 1 1 [.int .i64 N, .int .i64 t, .int .i64 ohandle, .int .i64 0] rfl rfl (new_cells (T := 120) ?hnew12) (by intro v hv; simp only [List.mem_cons, List.not_mem_nil, or_false] at hv; rcases hv with rfl | rfl | rfl | rfl <;> rfl) ?hbase11 (by unfold maxLen; omega) (by omega) ?_
              case hnew12 => exact N3.out
              case hbase11 => (first | omega | (simp <;> omega))
              intro a5 c5 w5 ho5 hg5
              have O5 := Lib.hid ho5
              have B5 := Lib.hid (B3.out.grown (B := w2.heap.size) hg5 B3.out.size (fun q hq => by have := ZD.out; have := (row_kind O3.out hq).1; omega))
              clear ho5 hg5
              refine hK.out _ _ (KX.out _ B5.out) (fun hHeld => ?_)
              clear hK K
              try simp only [Act.put, List.setIfInBounds_toArray, List.set_cons_zero, List.set_cons_succ, Nat.zero_add]
              ((refine take_at (i := 11) (v := ?_) rfl (by kernel_rfl) (by kernel_rfl) (by kernel_rfl) (fun _ _ _ h => h) (by rfl) ?_ (by assumption) ?_); rotate_left; (focus (intro wz hSw; (try dsimp only at hSw); obtain ⟨s0, s1, s2⟩ := hSw; go_simp; (try (with_reducible rfl)))); (try simp only [Act.put, List.setIfInBounds_toArray, List.set_cons_zero, List.set_cons_succ]))
              refine wpAnyH_done (by kernel_rfl) ?_ _
              simp only [AtLast]
              obtain ⟨s0, s1, s2⟩ := hHeld
              have sf := KF.out _ B5.out
              go_simp
              go_wp2_with fail
              go_meet
              exact ⟨a5, c5, w5, B5.out, row_le O5.out (by have := ZD.out; omega), rfl⟩
            · exact AllReadyH.nil
          · exact AllReadyH.nil
        · exact AllReadyH.nil
      · exact AllReadyH.nil
  case rest =>
    obtain ⟨u5, c5, w5, hB5, hrow5, rfl⟩ := hcut
    have B5 := Lib.hid (B2.out.trans (hB5.mono B2.out.size))
    have F5 := Lib.hid (walk_fam BW.out HH.out hB5 hrow5 hmr)
    clear hB5 hrow5
    obtain ⟨x0, x1, x2, x3⟩ := KE.out _ B5.out
    obtain ⟨y00, y01, y02⟩ := fam_cells x0
    obtain ⟨y10, y11, y12, y13, y14⟩ := op_cells x1
    obtain ⟨r0, r1, r2⟩ := fam_cells x2
    obtain ⟨fr0, fr1, fr2⟩ := fam_free x2
    obtain ⟨t0, t1, t2, t3, t4, t5, t6, t7⟩ := res_cells x3
    obtain ⟨ft0, ft1, ft2, ft3, ft4, ft5, ft6, ft7⟩ := res_free x3
    clear x0 x1 x2 x3
    clear y10 y11 y12 y13 y14
    go_wp2_with fail
    try simp only [Exit.inBlock, Exit.then]
    refine bodyPost_ret (v := .tuple #[rfamV { g with walks := g.walks ++ [(N, ⟨t, ohandle, 0⟩)] } A c u5 c5, .agg ({ found := true } : ResD).cells]) (by simp [results, Tryz.results29, go_sem, rfamV, ResD.cells, r0, r1, r2, t0, t1, t2, t3, t4, t5, t6, t7, y00, y01, y02, fr0, fr1, fr2, List.length_append]) rfl ?_
    refine rap_new (n := w2.heap.size) KK.out ?_ BW.out.size ?_ F5.out.2
    · repeat' (first | (with_reducible refine RFamAt.store ?_ ?_ ?_ _) | (simp only []; have hx := HS.out; have hy := B2.out.size; omega))
      exact F5.out.1
    · repeat' (first | (with_reducible exact B0.out.trans (B5.out.mono B0.out.size)) | (with_reducible apply Below.drew) | (with_reducible apply Below.setCell) | (show _ ≤ _; simp only []; omega))
end Go.Proofs.YtbmoehndnbbhcaaGreatDoor
namespace Go.Proofs.YtbmoehndnbbhcaaGreatDoor
set_option linter.unusedVariables false
set_option linter.unusedSimpArgs false
open Go Go.RowKit Go.MapKept
/-- the boxes of the results alone have changed -/
def Off (w w2 W : World) : Prop := ∀ q, q ≠ w.heap.size + 1 + 1 → q ≠ w.heap.size + 1 + 1 + 1 → W.heap[q]? = w2.heap[q]?
theorem Off.refl (w w2 : World) : Off w w2 w2 := fun _ _ _ => rfl
theorem Off.drew {w w2 W : World} (h : Off w w2 W) : Off w w2 W.drew := h
theorem Off.set2 {w w2 W : World} (h : Off w w2 W) (i : Nat) (v : Value) : Off w w2 (W.setCell ⟨w.heap.size + 1 + 1, i, none⟩ v) := fun q h2 h3 => (Below.heap_setCell _ _ _ _ h2).trans (h q h2 h3)
theorem Off.set3 {w w2 W : World} (h : Off w w2 W) (i : Nat) (v : Value) : Off w w2 (W.setCell ⟨w.heap.size + 1 + 1 + 1, i, none⟩ v) := fun q h2 h3 => (Below.heap_setCell _ _ _ _ h3).trans (h q h2 h3)
theorem Off.cell {w w2 W : World} (h : Off w w2 W) {q i : Nat} {v : Value} (hc : w2.cell? ⟨q, i, none⟩ = some v) (h2 : q ≠ w.heap.size + 1 + 1) (h3 : q ≠ w.heap.size + 1 + 1 + 1) : W.cell? ⟨q, i, none⟩ = some v := (World.cell?_of_block (a := ⟨q, i, none⟩) (h q h2 h3)).trans hc
set_option maxRecDepth 100000 in
set_option maxHeartbeats 2000000 in
theorem rapply_clear (T : Nat → Prop) (w : World) (A D : Option Addr) (c d : Nat) (g : RFam) (h : RFamAt T w A D g) (t i : Int) (ht : -9223372036854775808 ≤ t ∧ t ≤ 9223372036854775807) (hi : -9223372036854775808 ≤ i ∧ i ≤ 9223372036854775807) (o : OpD) (hkey : o.key.size ≤ maxLen) (hd0 : D = none → d = 0) (hz : refusedR g t i o = 0) (h8 : o.kind = 10) :
    Calls Tryz.prog 29 #[rfamV g A c D d, .int .i64 t, .int .i64 i, o.val] w (RApPost T w (applyR g t i o)) := by
  obtain ⟨okind, ohandle, okey, ovalue, oexpect⟩ := o
  simp only at h8
  subst h8
  obtain ⟨W0, hW0⟩ : ∃ W0, W0 = keyW w (.cells #[.int .u64 g.mask, .slice A g.maps.length c, .slice D g.walks.length d] 72) (.cells #[.int .i64 10, .int .i64 ohandle, .string okey, .int .u64 ovalue, .int .u64 oexpect] 60) (.cells #[.int .u64 0, .slice none 0 0, .slice none 0 0] 72) (.cells #[.int .i64 0, .bool false, .int .u64 0, .string ⟨#[]⟩, .int .i64 0, .int .i64 0, .int .i64 0, .bool false] 45) := ⟨_, rfl⟩
  have hb0 : Below w.heap.size w W0 := hW0 ▸ keyW_below _ _ _ _ _
  have hs0 : W0.heap.size = w.heap.size + 1 + 1 + 1 + 1 := hW0 ▸ keyW_size _ _ _ _ _
  have hk0 : W0.heap[w.heap.size]? = some (.cells #[.int .u64 g.mask, .slice A g.maps.length c, .slice D g.walks.length d] 72) := hW0 ▸ keyW_0 _ _ _ _ _
  have hk1 : W0.heap[w.heap.size + 1]? = some (.cells #[.int .i64 10, .int .i64 ohandle, .string okey, .int .u64 ovalue, .int .u64 oexpect] 60) := hW0 ▸ keyW_1 _ _ _ _ _
  have hk2 : W0.heap[w.heap.size + 1 + 1]? = some (.cells #[.int .u64 0, .slice none 0 0, .slice none 0 0] 72) := hW0 ▸ keyW_2 _ _ _ _ _
  have hk3 : W0.heap[w.heap.size + 1 + 1 + 1]? = some (.cells #[.int .i64 0, .bool false, .int .u64 0, .string ⟨#[]⟩, .int .i64 0, .int .i64 0, .int .i64 0, .bool false] 45) := hW0 ▸ keyW_3 _ _ _ _ _
  have KE := Lib.hid (fun W (hb : Below W0.heap.size W0 W) => apply_boxes hs0 hk0 hk1 hk2 hk3 hb)
  have H0 := h.below hb0
  have FI : Hid (∀ n W, Below W0.heap.size W0 W → Calls Tryz.prog 51 #[.agg #[.int .u64 g.mask, .slice A g.maps.length c, .slice D g.walks.length d], .int .i64 n] W fun e w' => e = .returned (.int .i64 (idxO (findM g.maps n))) ∧ Below W0.heap.size W0 w') := fun n W hb => (find_any T W A D c d g (H0.below hb) n).mono fun e w' p => lift_below hb p
  have NU : Hid (∀ W, Calls Tryz.prog 50 #[.int .i64 t, .int .i64 i] W fun e w' => e = .returned (.int .i64 (numberOf t i)) ∧ W = w') := fun W => refnum_any t i W ht hi
  have RE := Lib.hid (refused_any T W0 A D c d g H0 t i ht hi ⟨10, ohandle, okey, ovalue, oexpect⟩ hkey)
  have HR := Lib.hid H0
  have HB := Lib.hid (Below.refl W0.heap.size W0)
  have hW1 := hW0
  unfold keyW at hW1
  have HW := Lib.hid hW1
  have B0 := Lib.hid hb0
  have HS := Lib.hid hs0
  have HT := Lib.hid ht
  have HI := Lib.hid hi
  have HM := Lib.hid hkey
  have HH := Lib.hid h
  have HD := Lib.hid hd0
  clear hb0 hs0 hk0 hk1 hk2 hk3 hW0 hW1 H0 h ht hi hkey hd0
  simp only [rfamV, OpD.val] at RE ⊢
  generalize hER : refusedR g t i ⟨10, ohandle, okey, ovalue, oexpect⟩ = er at *
  have ER := Lib.hid hER
  clear hER
  go_enter Tryz.func29, Tryz.ntmps29
  go_upto_region 1 with fail
  rw [← HW.out]
  obtain ⟨x0, x1, x2, x3⟩ := KE.out _ HB.out
  have y0 := fam_cells x0
  have y1 := op_cells x1
  obtain ⟨y00, y01, y02⟩ := y0
  obtain ⟨y10, y11, y12, y13, y14⟩ := y1
  clear x0 x1 x2 x3
  go_wp2_with fail
  refine RE.out.mono ?_
  rintro e w1 ⟨rfl, hb1⟩
  have B1 := Lib.hid hb1
  clear y00 y01 y02 y10 y11 y12 y13 y14 hb1 RE
  subst hz
  have RN := refusedR_none ER.out
  obtain ⟨⟨n0, _, _⟩, _, hsome, hk7, _, _⟩ := RN
  obtain ⟨q, hq⟩ := Option.isSome_iff_exists.1 (hsome (by simp))
  obtain ⟨k, x⟩ := q
  simp only at hq n0 hk7
  obtain ⟨hm1, hm2⟩ := findM_at hq
  have hk := (List.getElem?_eq_some_iff.1 hm1).1
  obtain ⟨b, cs, rfl, hT, hbz, hrow, hcs⟩ := maps_row HH.out.low.maps (by omega)
  obtain ⟨u, cu, c0, c1, c2, hpr⟩ := hrow.each k x hm1
  have cell2 := hcs _ _ c2
  rw [raddr] at cell2
  have MX := Lib.hid hm1
  have e7 : idxO (findM g.maps ohandle) = (k : Int) := by rw [hq]; rfl
  have KK := Lib.hid (show applyR g t i ⟨10, ohandle, okey, ovalue, oexpect⟩ = (setM g k [], { found := true }) by
      unfold applyR
      rw [if_neg (by rw [ER.out]; simp), if_neg (by simp), hq]
      rfl)
  have hlm := HH.out.fit.lm
  have hk0 : (0 : Int) ≤ k := by omega
  have hk1 : (k : Int) < g.maps.length := by omega
  generalize hN : numberOf t i = N at *
  clear hN
  have E7 := Lib.hid e7
  clear e7 hq hm1 hm2 hrow hcs hpr c0 c1 c2 hsome n0 hT hk7
  obtain ⟨x0, x1, x2, x3⟩ := KE.out _ B1.out
  obtain ⟨y00, y01, y02⟩ := fam_cells x0
  obtain ⟨y10, y11, y12, y13, y14⟩ := op_cells x1
  clear x0 x1 x2 x3 y13 y14
  go_upto_region 4 with fail
  refine wp_region_class (C := fun W => Below W0.heap.size W0 W) (by kernel_rfl) (by kernel_rfl) B1.out.drew ?_
  clear y00 y01 y02 y10 y11 y12
  repeat (first | go_big_quiet_step (fail) | (refine' wpQuiet_take (by kernel_rfl) (fun W hW => ?_) ?_; rotate_left; (obtain ⟨x0, x1, _, _⟩ := KE.out W hW); (obtain ⟨y0, y1, y2⟩ := fam_cells x0); (obtain ⟨p0, p1, p2, _, _⟩ := op_cells x1); clear x0 x1; go_simp; (first | rfl | (with_reducible exact FI.out _ _ hW) | (with_reducible exact (NU.out W).mono (fun e w' p => ⟨p.1, p.2 ▸ hW⟩))); (simp only [Act.put, List.setIfInBounds_toArray, List.set_cons_zero, List.set_cons_succ])))
  refine wpQuiet_nil ?_
  intro w2 hb2
  have B2 := Lib.hid hb2
  have BW := Lib.hid (B0.out.trans (hb2.mono B0.out.size))
  clear hb2 B1 HB
  obtain ⟨x0, x1, x2, x3⟩ := KE.out _ B2.out
  obtain ⟨y00, y01, y02⟩ := fam_cells x0
  obtain ⟨y10, y11, y12, y13, y14⟩ := op_cells x1
  obtain ⟨r0, r1, r2⟩ := fam_cells x2
  obtain ⟨fr0, fr1, fr2⟩ := fam_free x2
  obtain ⟨t0, t1, t2, t3, t4, t5, t6, t7⟩ := res_cells x3
  obtain ⟨ft0, ft1, ft2, ft3, ft4, ft5, ft6, ft7⟩ := res_free x3
  clear x0 x1 x2 x3
  rw [E7.out]
  have cellx := (World.cell?_of_block (a := ⟨b, k * 3 + 2, none⟩) (BW.out.block b hbz)).trans cell2
  clear cell2 E7
  go_wp2_with fail
  refine (rset_any (OldNew T w w2.heap.size) w2 (some ⟨b, 0, none⟩) D c d g (HH.out.old BW.out _) k hk none 0 [] (fun h0 => absurd h0 (by simp)) (by simp) (by simp)).mono ?_
  rintro e w7 ⟨A7, c7, he, hf7, hb7⟩
  simp only [rfamV, ResD.cells] at he
  subst he
  have B7 := Lib.hid (B2.out.trans (hb7.mono B2.out.size))
  have F7 := Lib.hid (hf7.new (Nat.le_refl _))
  clear hf7 hb7 y00 y01 y02 y10 y11 y12 y13 y14 r0 r1 r2 t0 t1 t2 t3 t4 t5 t6 t7 fr0 fr1 fr2 ft0 ft1 ft2 ft3 ft4 ft5 ft6 ft7
  obtain ⟨x0, x1, x2, x3⟩ := KE.out _ B7.out
  obtain ⟨y00, y01, y02⟩ := fam_cells x0
  obtain ⟨y10, y11, y12, y13, y14⟩ := op_cells x1
  obtain ⟨r0, r1, r2⟩ := fam_cells x2
  obtain ⟨fr0, fr1, fr2⟩ := fam_free x2
  obtain ⟨t0, t1, t2, t3, t4, t5, t6, t7⟩ := res_cells x3
  obtain ⟨ft0, ft1, ft2, ft3, ft4, ft5, ft6, ft7⟩ := res_free x3
  clear x0 x1 x2 x3
  clear y10 y11 y12 y13 y14
  go_wp2_with fail
  try simp only [Exit.inBlock, Exit.then]
  refine bodyPost_ret (v := .tuple #[rfamV (setM g k []) A7 c7 D d, .agg ({ found := true } : ResD).cells]) (by simp [results, Tryz.results29, go_sem, rfamV, ResD.cells, r0, r1, r2, t0, t1, t2, t3, t4, t5, t6, t7]) rfl ?_
  refine rap_new (n := w2.heap.size) KK.out ?_ BW.out.size ?_ HD.out
  · repeat' (first | (with_reducible refine RFamAt.store ?_ ?_ ?_ _) | (simp only []; have hx := HS.out; have hy := B2.out.size; omega))
    exact F7.out
  · repeat' (first | (with_reducible exact B0.out.trans (B7.out.mono B0.out.size)) | (with_reducible apply Below.drew) | (with_reducible apply Below.setCell) | (show _ ≤ _; simp only []; omega))
set_option maxRecDepth 100000 in
set_option maxHeartbeats 2000000 in
theorem rapply_keyed (T : Nat → Prop) (w : World) (A D : Option Addr) (c d : Nat) (g : RFam) (h : RFamAt T w A D g) (t i : Int) (ht : -9223372036854775808 ≤ t ∧ t ≤ 9223372036854775807) (hi : -9223372036854775808 ≤ i ∧ i ≤ 9223372036854775807) (o : OpD) (hkey : o.key.size ≤ maxLen) (hd0 : D = none → d = 0) (hz : refusedR g t i o = 0) (h1 : 1 ≤ o.kind) (h7 : o.kind ≤ 7) (hroom : ∀ x ∈ g.maps, x.pairs.length < 1048576) :
    Calls Tryz.prog 29 #[rfamV g A c D d, .int .i64 t, .int .i64 i, o.val] w (RApPost T w (applyR g t i o)) := by
  obtain ⟨okind, ohandle, okey, ovalue, oexpect⟩ := o
  simp only at h1 h7
  obtain ⟨W0, hW0⟩ : ∃ W0, W0 = keyW w (.cells #[.int .u64 g.mask, .slice A g.maps.length c, .slice D g.walks.length d] 72) (.cells #[.int .i64 okind, .int .i64 ohandle, .string okey, .int .u64 ovalue, .int .u64 oexpect] 60) (.cells #[.int .u64 0, .slice none 0 0, .slice none 0 0] 72) (.cells #[.int .i64 0, .bool false, .int .u64 0, .string ⟨#[]⟩, .int .i64 0, .int .i64 0, .int .i64 0, .bool false] 45) := ⟨_, rfl⟩
  have hb0 : Below w.heap.size w W0 := hW0 ▸ keyW_below _ _ _ _ _
  have hs0 : W0.heap.size = w.heap.size + 1 + 1 + 1 + 1 := hW0 ▸ keyW_size _ _ _ _ _
  have hk0 : W0.heap[w.heap.size]? = some (.cells #[.int .u64 g.mask, .slice A g.maps.length c, .slice D g.walks.length d] 72) := hW0 ▸ keyW_0 _ _ _ _ _
  have hk1 : W0.heap[w.heap.size + 1]? = some (.cells #[.int .i64 okind, .int .i64 ohandle, .string okey, .int .u64 ovalue, .int .u64 oexpect] 60) := hW0 ▸ keyW_1 _ _ _ _ _
  have hk2 : W0.heap[w.heap.size + 1 + 1]? = some (.cells #[.int .u64 0, .slice none 0 0, .slice none 0 0] 72) := hW0 ▸ keyW_2 _ _ _ _ _
  have hk3 : W0.heap[w.heap.size + 1 + 1 + 1]? = some (.cells #[.int .i64 0, .bool false, .int .u64 0, .string ⟨#[]⟩, .int .i64 0, .int .i64 0, .int .i64 0, .bool false] 45) := hW0 ▸ keyW_3 _ _ _ _ _
  have KE := Lib.hid (fun W (hb : Below W0.heap.size W0 W) => apply_boxes hs0 hk0 hk1 hk2 hk3 hb)
  have H0 := h.below hb0
  have FI : Hid (∀ n W, Below W0.heap.size W0 W → Calls Tryz.prog 51 #[.agg #[.int .u64 g.mask, .slice A g.maps.length c, .slice D g.walks.length d], .int .i64 n] W fun e w' => e = .returned (.int .i64 (idxO (findM g.maps n))) ∧ Below W0.heap.size W0 w') := fun n W hb => (find_any T W A D c d g (H0.below hb) n).mono fun e w' p => lift_below hb p
  have NU : Hid (∀ W, Calls Tryz.prog 50 #[.int .i64 t, .int .i64 i] W fun e w' => e = .returned (.int .i64 (numberOf t i)) ∧ W = w') := fun W => refnum_any t i W ht hi
  have RE := Lib.hid (refused_any T W0 A D c d g H0 t i ht hi ⟨okind, ohandle, okey, ovalue, oexpect⟩ hkey)
  have HR := Lib.hid H0
  have HB := Lib.hid (Below.refl W0.heap.size W0)
  have hW1 := hW0
  unfold keyW at hW1
  have HW := Lib.hid hW1
  have B0 := Lib.hid hb0
  have HS := Lib.hid hs0
  have HT := Lib.hid ht
  have HI := Lib.hid hi
  have HM := Lib.hid hkey
  have HH := Lib.hid h
  have HD := Lib.hid hd0
  clear hb0 hs0 hk0 hk1 hk2 hk3 hW0 hW1 H0 h ht hi hkey hd0
  simp only [rfamV, OpD.val] at RE ⊢
  generalize hER : refusedR g t i ⟨okind, ohandle, okey, ovalue, oexpect⟩ = er at *
  have ER := Lib.hid hER
  clear hER
  go_enter Tryz.func29, Tryz.ntmps29
  go_upto_region 1 with fail
  rw [← HW.out]
  obtain ⟨x0, x1, x2, x3⟩ := KE.out _ HB.out
  have y0 := fam_cells x0
  have y1 := op_cells x1
  obtain ⟨y00, y01, y02⟩ := y0
  obtain ⟨y10, y11, y12, y13, y14⟩ := y1
  clear x0 x1 x2 x3
  go_wp2_with fail
  refine RE.out.mono ?_
  rintro e w1 ⟨rfl, hb1⟩
  have B1 := Lib.hid hb1
  clear y00 y01 y02 y10 y11 y12 y13 y14 hb1 RE
  subst hz
  have RN := refusedR_none ER.out
  obtain ⟨⟨n0, _, _⟩, _, hsome, hk7, _, _⟩ := RN
  obtain ⟨q, hq⟩ := Option.isSome_iff_exists.1 (hsome (by simp only [ne_eq]; omega))
  obtain ⟨k, x⟩ := q
  simp only at hq n0 hk7
  obtain ⟨hm1, hm2⟩ := findM_at hq
  have hk := (List.getElem?_eq_some_iff.1 hm1).1
  obtain ⟨b, cs, rfl, hT, hbz, hrow, hcs⟩ := maps_row HH.out.low.maps (by omega)
  obtain ⟨u, cu, c0, c1, c2, hpr⟩ := hrow.each k x hm1
  have cell2 := hcs _ _ c2
  rw [raddr] at cell2
  have MX := Lib.hid hm1
  have e7 : idxO (findM g.maps ohandle) = (k : Int) := by rw [hq]; rfl
  have KK := Lib.hid (show applyR g t i ⟨okind, ohandle, okey, ovalue, oexpect⟩ = keyedR g k x ⟨okind, ohandle, okey, ovalue, oexpect⟩ by
      unfold applyR
      rw [if_neg (by rw [ER.out]; simp), if_neg (by show ¬ okind = 13; omega), hq]
      simp only
      rw [if_neg (by omega), if_neg (by omega), if_neg (by omega), if_neg (by omega)])
  have hlm := HH.out.fit.lm
  have hk0 : (0 : Int) ≤ k := by omega
  have hk1 : (k : Int) < g.maps.length := by omega
  have e13 : (okind == 13) = false := by simp; omega
  have e12 : (okind == 12) = false := by simp; omega
  have e11 : (okind == 11) = false := by simp; omega
  have e10 : (okind == 10) = false := by simp; omega
  have e9 : (okind == 9) = false := by simp; omega
  have e8 : (okind == 8) = false := by simp; omega
  have H17 := Lib.hid (And.intro h1 h7)
  have ROOM := Lib.hid (hroom x (List.mem_of_getElem? MX.out))
  have KEY := Lib.hid (show okey.size ≤ 64 by have := hk7 h7; omega)
  generalize hN : numberOf t i = N at *
  clear hN
  have E7 := Lib.hid e7
  clear e7 hq hm1 hm2 hrow hcs hpr c0 c1 c2 hsome n0 hT hk7 hroom h1 h7
  obtain ⟨x0, x1, x2, x3⟩ := KE.out _ B1.out
  obtain ⟨y00, y01, y02⟩ := fam_cells x0
  obtain ⟨y10, y11, y12, y13, y14⟩ := op_cells x1
  clear x0 x1 x2 x3 y13 y14
  go_upto_region 4 with fail
  refine wp_region_class (C := fun W => Below W0.heap.size W0 W) (by kernel_rfl) (by kernel_rfl) B1.out.drew ?_
  clear y00 y01 y02 y10 y11 y12
  repeat (first | go_big_quiet_step (fail) | (refine' wpQuiet_take (by kernel_rfl) (fun W hW => ?_) ?_; rotate_left; (obtain ⟨x0, x1, _, _⟩ := KE.out W hW); (obtain ⟨y0, y1, y2⟩ := fam_cells x0); (obtain ⟨p0, p1, p2, _, _⟩ := op_cells x1); clear x0 x1; go_simp; (first | rfl | (with_reducible exact FI.out _ _ hW) | (with_reducible exact (NU.out W).mono (fun e w' p => ⟨p.1, p.2 ▸ hW⟩))); (simp only [Act.put, List.setIfInBounds_toArray, List.set_cons_zero, List.set_cons_succ])))
  refine wpQuiet_nil ?_
  intro w2 hb2
  have B2 := Lib.hid hb2
  have BW := Lib.hid (B0.out.trans (hb2.mono B0.out.size))
  clear hb2 B1 HB
  obtain ⟨x0, x1, x2, x3⟩ := KE.out _ B2.out
  obtain ⟨y00, y01, y02⟩ := fam_cells x0
  obtain ⟨y10, y11, y12, y13, y14⟩ := op_cells x1
  obtain ⟨r0, r1, r2⟩ := fam_cells x2
  obtain ⟨fr0, fr1, fr2⟩ := fam_free x2
  obtain ⟨t0, t1, t2, t3, t4, t5, t6, t7⟩ := res_cells x3
  obtain ⟨ft0, ft1, ft2, ft3, ft4, ft5, ft6, ft7⟩ := res_free x3
  clear x0 x1 x2 x3
  rw [E7.out]
  have cellx := (World.cell?_of_block (a := ⟨b, k * 3 + 2, none⟩) (BW.out.block b hbz)).trans cell2
  clear cell2 E7
  go_wp2_with fail
  refine (keyed_any (OldNew T w w2.heap.size) w2 (some ⟨b, 0, none⟩) D c d g (HH.out.old BW.out _) k x MX.out ⟨okind, ohandle, okey, ovalue, oexpect⟩ H17.out.1 H17.out.2 KEY.out ROOM.out).mono ?_
  rintro e w7 ⟨A7, c7, he, hf7, hb7⟩
  generalize hp : keyedR g k x ⟨okind, ohandle, okey, ovalue, oexpect⟩ = p at *
  have HP := Lib.hid hp
  clear hp
  simp only [rfamV, ResD.cells] at he
  subst he
  have B7 := Lib.hid (B2.out.trans (hb7.mono B2.out.size))
  have F7 := Lib.hid (hf7.new (Nat.le_refl _))
  clear hf7 hb7 y00 y01 y02 y10 y11 y12 y13 y14 r0 r1 r2 t0 t1 t2 t3 t4 t5 t6 t7 fr0 fr1 fr2 ft0 ft1 ft2 ft3 ft4 ft5 ft6 ft7
  obtain ⟨x0, x1, x2, x3⟩ := KE.out _ B7.out
  obtain ⟨y00, y01, y02⟩ := fam_cells x0
  obtain ⟨y10, y11, y12, y13, y14⟩ := op_cells x1
  obtain ⟨r0, r1, r2⟩ := fam_cells x2
  obtain ⟨fr0, fr1, fr2⟩ := fam_free x2
  obtain ⟨t0, t1, t2, t3, t4, t5, t6, t7⟩ := res_cells x3
  obtain ⟨ft0, ft1, ft2, ft3, ft4, ft5, ft6, ft7⟩ := res_free x3
  clear x0 x1 x2 x3
  clear y10 y11 y12 y13 y14
  go_wp2_with fail
  try simp only [Exit.inBlock, Exit.then]
  refine bodyPost_ret (v := .tuple #[rfamV p.1 A7 c7 D d, .agg (p.2 : ResD).cells]) (by simp [results, Tryz.results29, go_sem, rfamV, ResD.cells, r0, r1, r2, t0, t1, t2, t3, t4, t5, t6, t7]) rfl ?_
  refine rap_new (n := w2.heap.size) KK.out ?_ BW.out.size ?_ HD.out
  · repeat' (first | (with_reducible refine RFamAt.store ?_ ?_ ?_ _) | (simp only []; have hx := HS.out; have hy := B2.out.size; omega))
    exact F7.out
  · repeat' (first | (with_reducible exact B0.out.trans (B7.out.mono B0.out.size)) | (with_reducible apply Below.drew) | (with_reducible apply Below.setCell) | (show _ ≤ _; simp only []; omega))
set_option maxRecDepth 100000 in
set_option maxHeartbeats 2000000 in
theorem rapply_size (T : Nat → Prop) (w : World) (A D : Option Addr) (c d : Nat) (g : RFam) (h : RFamAt T w A D g) (t i : Int) (ht : -9223372036854775808 ≤ t ∧ t ≤ 9223372036854775807) (hi : -9223372036854775808 ≤ i ∧ i ≤ 9223372036854775807) (o : OpD) (hkey : o.key.size ≤ maxLen) (hd0 : D = none → d = 0) (hz : refusedR g t i o = 0) (h8 : o.kind = 11) :
    Calls Tryz.prog 29 #[rfamV g A c D d, .int .i64 t, .int .i64 i, o.val] w (RApPost T w (applyR g t i o)) := by
  obtain ⟨okind, ohandle, okey, ovalue, oexpect⟩ := o
  simp only at h8
  subst h8
  obtain ⟨W0, hW0⟩ : ∃ W0, W0 = keyW w (.cells #[.int .u64 g.mask, .slice A g.maps.length c, .slice D g.walks.length d] 72) (.cells #[.int .i64 11, .int .i64 ohandle, .string okey, .int .u64 ovalue, .int .u64 oexpect] 60) (.cells #[.int .u64 0, .slice none 0 0, .slice none 0 0] 72) (.cells #[.int .i64 0, .bool false, .int .u64 0, .string ⟨#[]⟩, .int .i64 0, .int .i64 0, .int .i64 0, .bool false] 45) := ⟨_, rfl⟩
  have hb0 : Below w.heap.size w W0 := hW0 ▸ keyW_below _ _ _ _ _
  have hs0 : W0.heap.size = w.heap.size + 1 + 1 + 1 + 1 := hW0 ▸ keyW_size _ _ _ _ _
  have hk0 : W0.heap[w.heap.size]? = some (.cells #[.int .u64 g.mask, .slice A g.maps.length c, .slice D g.walks.length d] 72) := hW0 ▸ keyW_0 _ _ _ _ _
  have hk1 : W0.heap[w.heap.size + 1]? = some (.cells #[.int .i64 11, .int .i64 ohandle, .string okey, .int .u64 ovalue, .int .u64 oexpect] 60) := hW0 ▸ keyW_1 _ _ _ _ _
  have hk2 : W0.heap[w.heap.size + 1 + 1]? = some (.cells #[.int .u64 0, .slice none 0 0, .slice none 0 0] 72) := hW0 ▸ keyW_2 _ _ _ _ _
  have hk3 : W0.heap[w.heap.size + 1 + 1 + 1]? = some (.cells #[.int .i64 0, .bool false, .int .u64 0, .string ⟨#[]⟩, .int .i64 0, .int .i64 0, .int .i64 0, .bool false] 45) := hW0 ▸ keyW_3 _ _ _ _ _
  have KE := Lib.hid (fun W (hb : Below W0.heap.size W0 W) => apply_boxes hs0 hk0 hk1 hk2 hk3 hb)
  have H0 := h.below hb0
  have FI : Hid (∀ n W, Below W0.heap.size W0 W → Calls Tryz.prog 51 #[.agg #[.int .u64 g.mask, .slice A g.maps.length c, .slice D g.walks.length d], .int .i64 n] W fun e w' => e = .returned (.int .i64 (idxO (findM g.maps n))) ∧ Below W0.heap.size W0 w') := fun n W hb => (find_any T W A D c d g (H0.below hb) n).mono fun e w' p => lift_below hb p
  have NU : Hid (∀ W, Calls Tryz.prog 50 #[.int .i64 t, .int .i64 i] W fun e w' => e = .returned (.int .i64 (numberOf t i)) ∧ W = w') := fun W => refnum_any t i W ht hi
  have RE := Lib.hid (refused_any T W0 A D c d g H0 t i ht hi ⟨11, ohandle, okey, ovalue, oexpect⟩ hkey)
  have HR := Lib.hid H0
  have HB := Lib.hid (Below.refl W0.heap.size W0)
  have hW1 := hW0
  unfold keyW at hW1
  have HW := Lib.hid hW1
  have B0 := Lib.hid hb0
  have HS := Lib.hid hs0
  have HT := Lib.hid ht
  have HI := Lib.hid hi
  have HM := Lib.hid hkey
  have HH := Lib.hid h
  have HD := Lib.hid hd0
  clear hb0 hs0 hk0 hk1 hk2 hk3 hW0 hW1 H0 h ht hi hkey hd0
  simp only [rfamV, OpD.val] at RE ⊢
  generalize hER : refusedR g t i ⟨11, ohandle, okey, ovalue, oexpect⟩ = er at *
  have ER := Lib.hid hER
  clear hER
  go_enter Tryz.func29, Tryz.ntmps29
  go_upto_region 1 with fail
  rw [← HW.out]
  obtain ⟨x0, x1, x2, x3⟩ := KE.out _ HB.out
  have y0 := fam_cells x0
  have y1 := op_cells x1
  obtain ⟨y00, y01, y02⟩ := y0
  obtain ⟨y10, y11, y12, y13, y14⟩ := y1
  clear x0 x1 x2 x3
  go_wp2_with fail
  refine RE.out.mono ?_
  rintro e w1 ⟨rfl, hb1⟩
  have B1 := Lib.hid hb1
  clear y00 y01 y02 y10 y11 y12 y13 y14 hb1 RE
  subst hz
  have RN := refusedR_none ER.out
  obtain ⟨⟨n0, _, _⟩, _, hsome, hk7, _, _⟩ := RN
  obtain ⟨q, hq⟩ := Option.isSome_iff_exists.1 (hsome (by simp))
  obtain ⟨k, x⟩ := q
  simp only at hq n0 hk7
  obtain ⟨hm1, hm2⟩ := findM_at hq
  have hk := (List.getElem?_eq_some_iff.1 hm1).1
  obtain ⟨b, cs, rfl, hT, hbz, hrow, hcs⟩ := maps_row HH.out.low.maps (by omega)
  obtain ⟨u, cu, c0, c1, c2, hpr⟩ := hrow.each k x hm1
  have cell2 := hcs _ _ c2
  rw [raddr] at cell2
  have MX := Lib.hid hm1
  have e7 : idxO (findM g.maps ohandle) = (k : Int) := by rw [hq]; rfl
  have KK := Lib.hid (show applyR g t i ⟨11, ohandle, okey, ovalue, oexpect⟩ = (g, { count := x.pairs.length }) by
      unfold applyR
      rw [if_neg (by rw [ER.out]; simp), if_neg (by simp), hq]
      rfl)
  have hlm := HH.out.fit.lm
  have hk0 : (0 : Int) ≤ k := by omega
  have hk1 : (k : Int) < g.maps.length := by omega
  generalize hN : numberOf t i = N at *
  clear hN
  have E7 := Lib.hid e7
  clear e7 hq hm1 hm2 hrow hcs hpr c0 c1 c2 hsome n0 hT hk7
  obtain ⟨x0, x1, x2, x3⟩ := KE.out _ B1.out
  obtain ⟨y00, y01, y02⟩ := fam_cells x0
  obtain ⟨y10, y11, y12, y13, y14⟩ := op_cells x1
  clear x0 x1 x2 x3 y13 y14
  go_upto_region 4 with fail
  refine wp_region_class (C := fun W => Below W0.heap.size W0 W) (by kernel_rfl) (by kernel_rfl) B1.out.drew ?_
  clear y00 y01 y02 y10 y11 y12
  repeat (first | go_big_quiet_step (fail) | (refine' wpQuiet_take (by kernel_rfl) (fun W hW => ?_) ?_; rotate_left; (obtain ⟨x0, x1, _, _⟩ := KE.out W hW); (obtain ⟨y0, y1, y2⟩ := fam_cells x0); (obtain ⟨p0, p1, p2, _, _⟩ := op_cells x1); clear x0 x1; go_simp; (first | rfl | (with_reducible exact FI.out _ _ hW) | (with_reducible exact (NU.out W).mono (fun e w' p => ⟨p.1, p.2 ▸ hW⟩))); (simp only [Act.put, List.setIfInBounds_toArray, List.set_cons_zero, List.set_cons_succ])))
  refine wpQuiet_nil ?_
  intro w2 hb2
  have B2 := Lib.hid hb2
  have BW := Lib.hid (B0.out.trans (hb2.mono B0.out.size))
  clear hb2 B1 HB
  obtain ⟨x0, x1, x2, x3⟩ := KE.out _ B2.out
  obtain ⟨y00, y01, y02⟩ := fam_cells x0
  obtain ⟨y10, y11, y12, y13, y14⟩ := op_cells x1
  obtain ⟨r0, r1, r2⟩ := fam_cells x2
  obtain ⟨fr0, fr1, fr2⟩ := fam_free x2
  obtain ⟨t0, t1, t2, t3, t4, t5, t6, t7⟩ := res_cells x3
  obtain ⟨ft0, ft1, ft2, ft3, ft4, ft5, ft6, ft7⟩ := res_free x3
  clear x0 x1 x2 x3
  rw [E7.out]
  have cellx := (World.cell?_of_block (a := ⟨b, k * 3 + 2, none⟩) (BW.out.block b hbz)).trans cell2
  clear cell2 E7
  go_upto_region 13 with fail
  have K0 : Hid (Off w w2 w2) := Off.refl w w2
  have KX : Hid (∀ W, Off w w2 W → (W.cell? ⟨w.heap.size, 0, none⟩ = some (.int .u64 g.mask) ∧ W.cell? ⟨w.heap.size, 1, none⟩ = some (.slice (some ⟨b, 0, none⟩) g.maps.length c) ∧ W.cell? ⟨w.heap.size, 2, none⟩ = some (.slice D g.walks.length d) ∧ W.cell? ⟨b, k * 3 + 2, none⟩ = some (.slice u x.pairs.length cu))) := fun W h => ⟨h.cell y00 (by omega) (by omega), h.cell y01 (by omega) (by omega), h.cell y02 (by omega) (by omega), h.cell cellx (by omega) (by omega)⟩
  clear y00 y01 y02 y10 y11 y12 y13 y14 cellx
  go_region_held3 (fun W => (W.cell? ⟨w.heap.size, 0, none⟩ = some (.int .u64 g.mask) ∧ W.cell? ⟨w.heap.size, 1, none⟩ = some (.slice (some ⟨b, 0, none⟩) g.maps.length c) ∧ W.cell? ⟨w.heap.size, 2, none⟩ = some (.slice D g.walks.length d) ∧ W.cell? ⟨b, k * 3 + 2, none⟩ = some (.slice u x.pairs.length cu))) ((refine KX.out _ ?_; (repeat' (first | (with_reducible exact K0.out) | (with_reducible refine Off.drew ?_) | (with_reducible refine Off.set2 ?_ _ _) | (with_reducible refine Off.set3 ?_ _ _))))) (fail)
  all_goals
    go_wp2_with fail
    try simp only [Exit.inBlock, Exit.then]
    refine bodyPost_ret (v := .tuple #[rfamV g (some ⟨b, 0, none⟩) c D d, .agg ({ count := x.pairs.length } : ResD).cells]) (by simp [results, Tryz.results29, go_sem, rfamV, ResD.cells, r0, r1, r2, t0, t1, t2, t3, t4, t5, t6, t7]) rfl ?_
    refine rap_same KK.out HH.out ?_ HD.out
    repeat' (first | (with_reducible exact BW.out) | (with_reducible apply Below.drew) | (with_reducible apply Below.setCell) | (show _ ≤ _; simp only []; omega))
end Go.Proofs.YtbmoehndnbbhcaaGreatDoor
