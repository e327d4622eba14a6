/- Part of a proof: HBef HThr HPen HAwk HRes. -/
import Derived.Test.YtpabdmcbahmjnaaGreatMA6
import Derived.Test.YtpabdmcbahmjnaaGreatMA3
namespace Go.Proofs.YtpabdmcbahmjnaaGreat
open Go Go.RowKit Go.MapKept
set_option linter.unusedSimpArgs false
set_option linter.unusedVariables false
def seenB (l : List EvD) (a : OpP) (j : Nat) : Bool := decide (0 ≤ whenP l a true ∧ whenP l a true < (j : Int))
theorem seenB_hit {l : List EvD} {a : OpP} {j : Nat} {e : EvD} (hj : l[j]? = some e) (he : e.is a true) : seenB l a (j + 1) = true := by
 unfold seenB
 rw [decide_eq_true_eq]
 rcases when_spec l a true with ⟨_, hn⟩ | ⟨i, f, hi, hf, hw, hm⟩
 ·exact absurd he (hn j e hj)
 ·have : i ≤ j := Nat.le_of_not_lt fun h => hm j e h hj he
  omega
theorem seenB_miss {l : List EvD} {a : OpP} {j : Nat} {e : EvD} (hj : l[j]? = some e) (he : ¬ e.is a true) : seenB l a (j + 1) = seenB l a j := by
 unfold seenB
 rw [decide_eq_decide]
 rcases when_spec l a true with ⟨hw, hn⟩ | ⟨i, f, hi, hf, hw, hm⟩
 ·omega
 ·have : i ≠ j := fun h => by subst h; rw [hj] at hi; obtain rfl := Option.some.inj hi; exact he hf
  omega
theorem seenB_done {l : List EvD} {a b : OpP} {j : Nat} {e : EvD} (hj : l[j]? = some e) (he : e.is b false) (hn : ∀ k x, k < j → l[k]? = some x → ¬ x.is b false) : seenB l a j = beforeP l a b := by
 unfold beforeP
 rw [when_hit hj he hn]
 unfold seenB
 rw [Bool.decide_and]
theorem before_never {l : List EvD} {a b : OpP} (hn : ∀ k x, k < l.length → l[k]? = some x → ¬ x.is b false) : beforeP l a b = false := by
 rw [Bool.eq_false_iff]
 intro h
 have := before_iff.1 h
 rw [when_miss hn] at this
 omega
def HbRel (w : World) (l : List EvD) (a b : OpP) (v i : Value) (wr : World) : Prop :=
 ∃ j : Nat, j ≤ l.length ∧ i = .int .i64 j ∧ v = .bool (seenB l a j) ∧ (∀ k x, k < j → l[k]? = some x → ¬ x.is b false) ∧ wr.heap[w.heap.size]? = some (opBox a) ∧ wr.heap[w.heap.size + 1]? = some (opBox b) ∧ Below w.heap.size w wr
set_option maxRecDepth 100000 in
set_option maxHeartbeats 4000000 in
theorem hbefore_any (w : World) (A : Option Addr) (c : Nat) (l : List EvD) (fe : EvsFit l) (h : EvsAt w A l) (a b : OpP) (fa : OpFit a) (fb : OpFit b) :
  Calls Tryz.prog 14 #[.slice A l.length c, .agg #[.int .i64 a.1, .int .i64 a.2], .agg #[.int .i64 b.1, .int .i64 b.2]] w fun e w' => e = .returned (.bool (beforeP l a b)) ∧ Below w.heap.size w w' := by
 have H := Lib.hid h
 have FE := Lib.hid fe
 have hl := fe.len
 have FA := Lib.hid fa
 have FB := Lib.hid fb
 clear h fe fa fb
 obtain ⟨a0, a1⟩ := a
 obtain ⟨b0, b1⟩ := b
 simp only
 go_enter Tryz.func14, Tryz.ntmps14
 go_wp2_with fail
 have B0 : Hid (Below w.heap.size w ((w.alloc (.cells #[.int .i64 a0, .int .i64 a1] 44)).alloc (.cells #[.int .i64 b0, .int .i64 b1] 44))) := balZ (balZ (Below.refl _ _) _) _
 have KA : Hid (((w.alloc (.cells #[.int .i64 a0, .int .i64 a1] 44)).alloc (.cells #[.int .i64 b0, .int .i64 b1] 44)).heap[w.heap.size]? = some (opBox (a0, a1)) ∧ ((w.alloc (.cells #[.int .i64 a0, .int .i64 a1] 44)).alloc (.cells #[.int .i64 b0, .int .i64 b1] 44)).heap[w.heap.size + 1]? = some (opBox (b0, b1))) := by
  have h1 := (heap_alloc (w.alloc (.cells #[.int .i64 a0, .int .i64 a1] 44)) (.cells #[.int .i64 b0, .int .i64 b1] 44)).1
  have z : (w.alloc (.cells #[.int .i64 a0, .int .i64 a1] 44)).heap.size = w.heap.size + 1 := by simp
  rw [z] at h1
  exact ⟨(Below.heap_alloc _ _ _ (by simp)).trans (heap_alloc w _).1, h1⟩
 go_loopw [7, 12] (fun v i wr => HbRel w l (a0, a1) (b0, b1) v i wr) (fun _ i _ => l.length - (intOf i).toNat)
 case atStart => exact ⟨0, by omega, rfl, by simp [seenB], fun k x hk => by omega, KA.out.1, KA.out.2, B0.out⟩
 case round =>
  obtain ⟨j, hj, rfl, rfl, hnb, hka, hkb, hbw⟩ := hrel
  have NB := Lib.hid hnb
  have HB := Lib.hid hbw
  have HA1 := Lib.hid hka
  have HB1 := Lib.hid hkb
  clear hnb hka hkb hbw KA B0
  by_cases hlt : j < l.length
  ·obtain ⟨e, hx⟩ : ∃ e, l[j]? = some e := ⟨_, List.getElem?_eq_getElem hlt⟩
   obtain ⟨p, off, rfl, hp, hc⟩ := (H.out.below HB.out) (by omega)
   have hmem := List.mem_of_getElem? hx
   have FO : Hid (OpFit e.op) := ⟨FE.out.thread e hmem, FE.out.index e hmem⟩
   obtain ⟨e0, e1, e2⟩ := ev_cells (hc j e hx)
   obtain ⟨g0, g1, g2, g3, g4, g5, g6, g7⟩ := ev_res (hc j e hx)
   have hj0 : (0 : Int) ≤ j := by omega
   have hj1 : (j : Int) < l.length := by omega
   have HX := Lib.hid hx
   clear hx hc hmem
   obtain ⟨th, ix, rt, rs⟩ := e
   simp only at e0 e1 e2 g0 g1 g2 g3 g4 g5 g6 g7
   go_upto_region 5 with fail
   obtain ⟨W1, hW1⟩ : ∃ W1, W1 = wr.alloc (.cells #[.int .i64 th, .int .i64 ix, .bool rt, .int .i64 rs.err, .bool rs.found, .int .u64 rs.value, .string rs.key, .int .i64 rs.count, .int .i64 rs.ref, .int .i64 rs.root, .bool rs.ro] 72) := ⟨_, rfl⟩
   have B1 : Hid (Below wr.heap.size wr W1) := by rw [hW1]; exact balZ (Below.refl _ _) _
   have KV : Hid (W1.heap[wr.heap.size]? = some (.cells #[.int .i64 th, .int .i64 ix, .bool rt, .int .i64 rs.err, .bool rs.found, .int .u64 rs.value, .string rs.key, .int .i64 rs.count, .int .i64 rs.ref, .int .i64 rs.root, .bool rs.ro] 72 (0, 0))) := by rw [hW1]; exact (heap_alloc wr _).1
   have BW1 := Lib.hid (HB.out.trans (B1.out.mono HB.out.size))
   have HA2 := Lib.hid (kept_block' HA1.out B1.out)
   have HB2 := Lib.hid (kept_block' HB1.out B1.out)
   rw [← hW1]
   clear hW1 e0 e1 e2 g0 g1 g2 g3 g4 g5 g6 g7 B1 HA1 HB1
   generalize hzb : wr.heap.size = zb at *
   clear hzb
   have NX : Hid (∀ W, Below W1.heap.size W1 W → seenB l (a0, a1) (j + 1) = seenB l (a0, a1) j → ¬ ((⟨th, ix, rt, rs⟩ : EvD).is (b0, b1) false) → HbRel w l (a0, a1) (b0, b1) (.bool (seenB l (a0, a1) j)) (.int .i64 ((j : Int) + 1)) W) := fun W hW hs hn =>
    ⟨j + 1, by omega, by go_num, by rw [hs], fun k x hk hkx => by
     by_cases hkj : k = j
     ·subst hkj; rw [HX.out] at hkx; obtain rfl := Option.some.inj hkx; exact hn
     ·exact NB.out k x (by omega) hkx, kept_block' HA2.out hW, kept_block' HB2.out hW, BW1.out.trans (hW.mono BW1.out.size)⟩
   have NT : Hid (∀ W, Below W1.heap.size W1 W → seenB l (a0, a1) (j + 1) = true → ¬ ((⟨th, ix, rt, rs⟩ : EvD).is (b0, b1) false) → HbRel w l (a0, a1) (b0, b1) (.bool true) (.int .i64 ((j : Int) + 1)) W) := fun W hW hs hn =>
    ⟨j + 1, by omega, by go_num, by rw [hs], fun k x hk hkx => by
     by_cases hkj : k = j
     ·subst hkj; rw [HX.out] at hkx; obtain rfl := Option.some.inj hkx; exact hn
     ·exact NB.out k x (by omega) hkx, kept_block' HA2.out hW, kept_block' HB2.out hW, BW1.out.trans (hW.mono BW1.out.size)⟩
   have KC : Hid (∀ W, Below W1.heap.size W1 W → (W.cell? ⟨zb, 0, none⟩ = some (.int .i64 th) ∧ W.cell? ⟨zb, 1, none⟩ = some (.int .i64 ix) ∧ W.cell? ⟨zb, 2, none⟩ = some (.bool rt) ∧ W.cell? ⟨zb, 3, none⟩ = some (.int .i64 rs.err) ∧ W.cell? ⟨zb, 4, none⟩ = some (.bool rs.found) ∧ W.cell? ⟨zb, 5, none⟩ = some (.int .u64 rs.value) ∧
     W.cell? ⟨zb, 6, none⟩ = some (.string rs.key) ∧ W.cell? ⟨zb, 7, none⟩ = some (.int .i64 rs.count) ∧ W.cell? ⟨zb, 8, none⟩ = some (.int .i64 rs.ref) ∧ W.cell? ⟨zb, 9, none⟩ = some (.int .i64 rs.root) ∧ W.cell? ⟨zb, 10, none⟩ = some (.bool rs.ro)) ∧ (W.cell? ⟨w.heap.size, 0, none⟩ = some (.int .i64 a0) ∧ W.cell? ⟨w.heap.size, 1, none⟩ = some (.int .i64 a1)) ∧
     (W.cell? ⟨w.heap.size + 1, 0, none⟩ = some (.int .i64 b0) ∧ W.cell? ⟨w.heap.size + 1, 1, none⟩ = some (.int .i64 b1))) := fun W hW => ⟨ev_box (kept_block' KV.out hW), opBox_cells (kept_block' HA2.out hW), opBox_cells (kept_block' HB2.out hW)⟩
   have OC : Hid (∀ W, Below W1.heap.size W1 W → Calls Tryz.prog 31 #[.agg #[.int .i64 th, .int .i64 ix, .bool rt, .int .i64 rs.err, .bool rs.found, .int .u64 rs.value, .string rs.key, .int .i64 rs.count, .int .i64 rs.ref, .int .i64 rs.root, .bool rs.ro]] W fun e w' => e = .returned (.agg #[.int .i64 th, .int .i64 ix]) ∧ Below W1.heap.size W1 w') := fun W hW =>
    (hoper_any W th ix rt rs.err rs.found rs.value rs.key rs.count rs.ref rs.root rs.ro).mono fun e w' p => ⟨p.1, hW.trans (p.2.mono hW.size)⟩
   have BD : Hid (Below W1.heap.size W1 W1.drew) := (Below.refl _ _).drew
   have DN := Lib.hid (fun hr : rt = false => seenB_done (l := l) (a := (a0, a1)) (b := (b0, b1)) HX.out)
   cases rt with
   | false =>
    refine wp_region_class (C := fun W => Below W1.heap.size W1 W) (by kernel_rfl) (by kernel_rfl) BD.out ?_
    repeat (first | go_big_quiet_step (fail) | (refine' wpQuiet_take (by kernel_rfl) (fun W _ => quiet_op2 (x := (th, ix)) (y := (b0, b1)) _ _ rfl rfl rfl FO.out FB.out) ?_; simp only [Act.put, List.setIfInBounds_toArray, List.set_cons_zero, List.set_cons_succ]) | (refine' wpQuiet_take (by kernel_rfl) (fun W hW => ?_) ?_; rotate_left; (obtain ⟨⟨y0, y1, y2, y3, y4, y5, y6, y7, y8, y9, y10⟩, ⟨x0, x1⟩, x2, x3⟩ := KC.out W hW); go_simp; (first | rfl | (with_reducible exact OC.out _ hW)); (simp only [Act.put, List.setIfInBounds_toArray, List.set_cons_zero, List.set_cons_succ])))
    refine wpQuiet_nil ?_
    intro W2 hW2
    have HW2 := Lib.hid hW2
    clear hW2 BD
    have KC2 := Lib.hid (KC.out W2 HW2.out)
    by_cases he : th = b0 ∧ ix = b1
    ·obtain ⟨rfl, rfl⟩ := he
     have R := Lib.hid (DN.out rfl ⟨rfl, rfl, rfl⟩ NB.out)
     simp only [decide_true, Bool.and_self]
     go_wp2_with fail
     go_ret
     exact ⟨ret_bool R.out, BW1.out.trans (HW2.out.mono BW1.out.size)⟩
    ·have hd : (decide (th = b0) && decide (ix = b1)) = false := by
      rw [Bool.eq_false_iff]; intro hh; exact he (by simpa using hh)
     have HN := Lib.hid (show ¬ ((⟨th, ix, false, rs⟩ : EvD).is (b0, b1) false) from fun hh => he ⟨hh.1, hh.2.1⟩)
     rw [hd]
     clear hd he
     have SM := Lib.hid (seenB_miss (a := (a0, a1)) HX.out (fun hh => by cases hh.2.2))
     obtain ⟨⟨y0, y1, y2, y3, y4, y5, y6, y7, y8, y9, y10⟩, ⟨x0, x1⟩, x2, x3⟩ := KC2.out
     go_upto_region 7 with fail
     go_quiet (fail)
     go_wp2_with fail
     go_roundw
     case rel => exact NX.out _ (below_drewN HW2.out _) SM.out HN.out
     case measure => simp [intOf]; omega
   | true =>
    have HN := Lib.hid (show ¬ ((⟨th, ix, true, rs⟩ : EvD).is (b0, b1) false) from fun hh => by cases hh.2.2)
    obtain ⟨⟨y0, y1, y2, y3, y4, y5, y6, y7, y8, y9, y10⟩, ⟨x0, x1⟩, x2, x3⟩ := KC.out W1 (Below.refl _ _)
    go_quiet (fail)
    go_upto_region 7 with fail
    clear y0 y1 y2 y3 y4 y5 y6 y7 y8 y9 y10 x0 x1 x2 x3
    have BD2 : Hid (Below W1.heap.size W1 (W1.drewN nq).drew) := (below_drewN (Below.refl _ _) _).drew
    refine wp_region_class (C := fun W => Below W1.heap.size W1 W) (by kernel_rfl) (by kernel_rfl) BD2.out ?_
    repeat (first | go_big_quiet_step (fail) | (refine' wpQuiet_take (by kernel_rfl) (fun W _ => quiet_op2 (x := (th, ix)) (y := (a0, a1)) _ _ rfl rfl rfl FO.out FA.out) ?_; simp only [Act.put, List.setIfInBounds_toArray, List.set_cons_zero, List.set_cons_succ]) | (refine' wpQuiet_take (by kernel_rfl) (fun W hW => ?_) ?_; rotate_left; (obtain ⟨⟨y0, y1, y2, y3, y4, y5, y6, y7, y8, y9, y10⟩, ⟨x0, x1⟩, x2, x3⟩ := KC.out W hW); go_simp; (first | rfl | (with_reducible exact OC.out _ hW)); (simp only [Act.put, List.setIfInBounds_toArray, List.set_cons_zero, List.set_cons_succ])))
    refine wpQuiet_nil ?_
    intro W2 hW2
    have HW2 := Lib.hid hW2
    clear hW2 BD BD2
    by_cases he : th = a0 ∧ ix = a1
    ·obtain ⟨rfl, rfl⟩ := he
     have SM := Lib.hid (seenB_hit HX.out (⟨rfl, rfl, rfl⟩ : EvD.is _ (th, ix) true))
     simp only [decide_true, Bool.and_self]
     go_wp2_with fail
     go_roundw
     case rel => exact NT.out _ HW2.out SM.out HN.out
     case measure => simp [intOf]; omega
    ·have hd : (decide (th = a0) && decide (ix = a1)) = false := by
      rw [Bool.eq_false_iff]; intro hh; exact he (by simpa using hh)
     have SM := Lib.hid (seenB_miss (a := (a0, a1)) HX.out (fun hh => he ⟨hh.1, hh.2.1⟩))
     rw [hd]
     clear hd he
     go_wp2_with fail
     go_roundw
     case rel => exact NX.out _ HW2.out SM.out HN.out
     case measure => simp [intOf]; omega
  ·have hje : j = l.length := by omega
   have R := Lib.hid (before_never (a := (a0, a1)) (b := (b0, b1)) (l := l) (fun k x hk hx => NB.out k x (by omega) hx))
   clear hje
   go_wp2_with fail
   go_ret
   exact ⟨ret_bool R.out.symm, HB.out⟩
theorem evInfoH : (Tryz.prog.info? 72).map (fun i => (i.zero, i.size, i.bytes)) = some (some (.agg #[.int .i64 0, .int .i64 0, .bool false, .int .i64 0, .bool false, .int .u64 0, .string ⟨#[]⟩, .int .i64 0, .int .i64 0, .int .i64 0, .bool false]), 11, 96) := by kernel_rfl
theorem flat11 : ∀ (l : List EvD) (k j : Nat) (e : EvD), l[k]? = some e → j < 11 → (l.flatMap EvD.cells)[k * 11 + j]? = e.cells[j]?
 | [], k, j, e, h, _ => by simp at h
 | x :: r, 0, j, e, h, hj => by
  simp only [List.getElem?_cons_zero, Option.some.injEq] at h
  subst h
  rw [List.flatMap_cons, List.getElem?_append_left (by show 0 * 11 + j < 11; omega), Nat.zero_mul, Nat.zero_add]
 | x :: r, k + 1, j, e, h, hj => by
  rw [List.getElem?_cons_succ] at h
  have hx : x.cells.length = 11 := rfl
  rw [List.flatMap_cons, List.getElem?_append_right (by rw [hx]; omega), hx, show (k + 1) * 11 + j - 11 = k * 11 + j by omega]
  exact flat11 r k j e h hj
theorem evs_box {W : World} {b : Nat} {T : TypeId} {l : List EvD} (h : W.heap[b]? = some (.cells (l.flatMap EvD.cells).toArray T (0, 0))) : EvsAt W (some ⟨b, 0, none⟩) l := fun _ =>
 ⟨b, 0, rfl, (Array.getElem?_eq_some_iff.1 h).1, fun k e he j v hj => by
  have hj' : j < 11 := (List.getElem?_eq_some_iff.1 hj).1
  rw [Nat.zero_add, blk_cell h, List.getElem?_toArray, flat11 l k j e he hj', hj]⟩
theorem evsAt_of_row {w : World} {B : Nat} {A : Option Addr} {n c : Nat} {l : List EvD} (h : w.ownsRow B 72 11 (.slice A n c) n (l.flatMap EvD.cells)) (hn : n = l.length) : EvsAt w A l := fun h0 => by
 obtain ⟨g, cap, hv⟩ := row_some h (by omega)
 simp only [Value.slice.injEq, true_and] at hv
 obtain ⟨rfl, rfl⟩ := hv
 refine ⟨g, 0, rfl, row_lt h rfl, fun k e he j v hj => ?_⟩
 have hj' : j < 11 := (List.getElem?_eq_some_iff.1 hj).1
 have c1 := h.cells (g := g) rfl (k * 11 + j) v (by rw [flat11 l k j e he hj']; exact hj)
 rw [raddr] at c1
 rw [Nat.zero_add]
 exact c1
theorem evCells_box {W : World} {b : Nat} {e : EvD} {T : TypeId} (h : W.heap[b]? = some (.cells e.cells.toArray T (0, 0))) : ∀ j u, e.cells[j]? = some u → W.cell? ((⟨b, 0, none⟩ : Addr).add j) = some u := by
 intro j u hu
 rw [raddr, blk_cell h, List.getElem?_toArray]
 exact hu
theorem evCells_one (e : EvD) : ∀ u ∈ e.cells, u.oneCell' = true := by
 intro u hu
 simp only [EvD.cells, ResF.cells, List.mem_cons, List.not_mem_nil, or_false] at hu
 rcases hu with rfl | rfl | rfl | rfl | rfl | rfl | rfl | rfl | rfl | rfl | rfl <;> rfl
def EvPost (w : World) (l : List EvD) (e : Ending) (w' : World) : Prop := ∃ (A : Option Addr) (c : Nat), e = .returned (.slice A l.length c) ∧ EvsAt w' A l ∧ Below w.heap.size w w'
def ThRel (w : World) (l : List EvD) (t : Int) (v i : Value) (wr : World) : Prop :=
 ∃ j : Nat, j ≤ l.length ∧ i = .int .i64 j ∧ wr.ownsRow w.heap.size 72 11 v (threadP (l.take j) t).length ((threadP (l.take j) t).flatMap EvD.cells) ∧ Below w.heap.size w wr
theorem thread_len (l : List EvD) (t : Int) (j : Nat) : (threadP (l.take j) t).length ≤ j := by
 unfold threadP
 exact Nat.le_trans (List.length_filter_le _ _) (by rw [List.length_take]; omega)
theorem thread_succ {l : List EvD} {j : Nat} {e : EvD} (h : l[j]? = some e) (t : Int) : threadP (l.take (j + 1)) t = threadP (l.take j) t ++ (if e.thread = t then [e] else []) := by
 unfold threadP
 rw [List.take_add_one, h, List.filter_append]
 by_cases he : e.thread = t
 ·simp [he]
 ·simp [he]
set_option maxRecDepth 100000 in
set_option maxHeartbeats 2000000 in
theorem hthread_any (w : World) (A : Option Addr) (c : Nat) (l : List EvD) (hl : l.length ≤ 1048576) (h : EvsAt w A l) (t : Int) :
  Calls Tryz.prog 19 #[.slice A l.length c, .int .i64 t] w (EvPost w (threadP l t)) := by
 have H := Lib.hid h
 clear h
 go_enter Tryz.func19, Tryz.ntmps19
 go_wp2_with fail
 go_loopw [5, 10] (fun v i wr => ThRel w l t v i wr) (fun _ i _ => l.length - (intOf i).toNat)
 case atStart => exact ⟨0, by omega, rfl, World.ownsRow_nil _ _ _ _, Below.refl _ _⟩
 case round =>
  obtain ⟨j, hj, rfl, hown, hbw⟩ := hrel
  have HO := Lib.hid hown
  have HB := Lib.hid hbw
  have hsz : w.heap.size ≤ wr.heap.size := hbw.size
  have hln := thread_len l t j
  clear hown hbw
  by_cases hlt : j < l.length
  ·obtain ⟨e, hx⟩ : ∃ e, l[j]? = some e := ⟨_, List.getElem?_eq_getElem hlt⟩
   obtain ⟨b, off, rfl, hb, hc⟩ := (H.out.below HB.out) (by omega)
   obtain ⟨e0, e1, e2⟩ := ev_cells (hc j e hx)
   obtain ⟨g0, g1, g2, g3, g4, g5, g6, g7⟩ := ev_res (hc j e hx)
   have hj0 : (0 : Int) ≤ j := by omega
   have hj1 : (j : Int) < l.length := by omega
   have NX := Lib.hid (thread_succ hx t)
   clear hx hc
   obtain ⟨th, ix, rt, rs⟩ := e
   simp only at e0 e1 e2 g0 g1 g2 g3 g4 g5 g6 g7
   go_upto_region 5 with fail
   obtain ⟨W1, hW1⟩ : ∃ W1, W1 = wr.alloc (.cells #[.int .i64 th, .int .i64 ix, .bool rt, .int .i64 rs.err, .bool rs.found, .int .u64 rs.value, .string rs.key, .int .i64 rs.count, .int .i64 rs.ref, .int .i64 rs.root, .bool rs.ro] 72) := ⟨_, rfl⟩
   have B1 : Hid (Below wr.heap.size wr W1) := by rw [hW1]; exact balZ (Below.refl _ _) _
   have KV : Hid (W1.heap[wr.heap.size]? = some (.cells #[.int .i64 th, .int .i64 ix, .bool rt, .int .i64 rs.err, .bool rs.found, .int .u64 rs.value, .string rs.key, .int .i64 rs.count, .int .i64 rs.ref, .int .i64 rs.root, .bool rs.ro] 72 (0, 0))) := by rw [hW1]; exact (heap_alloc wr _).1
   have BW1 := Lib.hid (HB.out.trans (B1.out.mono HB.out.size))
   have HO1 := Lib.hid (row_keep HO.out (fun g hg => B1.out.block g (row_lt HO.out hg)))
   rw [← hW1]
   clear hW1 e0 e1 e2 g0 g1 g2 g3 g4 g5 g6 g7
   have hz1 : w.heap.size ≤ W1.heap.size := BW1.out.size
   generalize hzb : wr.heap.size = zb at *
   clear hzb
   obtain ⟨y0, y1, y2, y3, y4, y5, y6, y7, y8, y9, y10⟩ := ev_box KV.out
   by_cases he : th = t
   ·subst he
    have NY := Lib.hid (NX.out.trans (by rw [if_pos rfl]))
    have hq : (th == th) = true := by simp
    go_wp2_with (at_builtin; refine stopAt ?_)
    unfold StopAt
    refine wpList_app 35 72 Tryz.underlying35 _ 11 96 evInfoH rfl (by decide) rfl _ _ rfl w.heap.size _ u5 _ _ rfl (HO1.out.alloc _) ⟨W1.heap.size, 0, none⟩ 1 1 (EvD.cells ⟨th, ix, rt, rs⟩) rfl rfl ?_ (evCells_one _) ?_ ?_ ?_ ?_
    ·exact evCells_box (heap_alloc W1 _).1
    ·simp; omega
    ·unfold maxLen; omega
    ·omega
    intro a3 c3 w3 ho3 hg3
    have RR : Hid (ThRel w l th (.slice a3 ((threadP (l.take j) th).length + 1) c3) (.int .i64 ((j : Int) + 1)) w3) := by
     refine ⟨j + 1, by omega, by go_num, ?_, ?_⟩
     ·rw [NY.out, List.length_append, List.flatMap_append]; exact ho3
     ·exact BW1.out.trans (grown_below hg3 (by omega) (fun k hk => (row_kind HO1.out hk).1))
    clear ho3 hg3
    go_wp2_with fail
    go_roundw
    case rel => exact RR.out
    case measure => simp [intOf]; omega
   ·have RR : Hid (ThRel w l t u5 (.int .i64 ((j : Int) + 1)) W1) := by
     refine ⟨j + 1, by omega, by go_num, ?_, BW1.out⟩
     rw [NX.out, if_neg he, List.append_nil]
     exact HO1.out
    have hq : (th == t) = false := by simpa using he
    go_wp2_with fail
    go_roundw
    case rel => exact RR.out
    case measure => simp [intOf]; omega
  ·have hje : j = l.length := by omega
   have TT := Lib.hid hje
   obtain ⟨A2, c2, hv⟩ := row_form HO.out
   clear hje
   go_wp2_with fail
   go_ret
   subst hv
   rw [TT.out, List.take_length] at HO
   exact ⟨A2, c2, by rw [TT.out, List.take_length]; rfl, evsAt_of_row HO.out rfl, HB.out⟩
theorem inv_fitH {l : List EvD} (fe : EvsFit l) : OrdFit (invokedP l) := fun a ha => by
 obtain ⟨i, e, hi, he, _⟩ := when_nat (mem_invoked.1 ha)
 have hm := List.mem_of_getElem? hi
 rw [← he.is_op]
 exact ⟨fe.thread e hm, fe.index e hm⟩
theorem aset_again (L : List OpP) (a : OpP) (h : a ∈ L) : aset (L.map fun x => (x, true)) a true = L.map fun x => (x, true) := by
 induction L with
 | nil => cases h
 | cons x r ih =>
  simp only [List.map_cons, aset]
  by_cases hx : x = a
  ·rw [if_pos hx, hx]
  ·rw [if_neg hx]
   rcases List.mem_cons.1 h with rfl | h
   ·exact absurd rfl hx
   ·rw [ih h]
theorem SetW.put {w : World} {m : Nat} {L : List OpP} (h : SetW w m L) (a : OpP) (ha : OpFit a) : ∃ w' L', (Instr.mapUpdate 75 (.map (some m)) (.agg #[.int .i64 a.1, .int .i64 a.2]) (.bool true)).run Tryz.prog w = .ok () w' ∧ SetW w' m L' ∧ (∀ x, x ∈ L' ↔ x = a ∨ x ∈ L) ∧ Turned m w w' := by
 by_cases hm : a ∈ L
 ·obtain ⟨o, h1, h2⟩ := MapW.update opKey Tryz.underlying75 h a ha true
  rw [aset_again L a hm] at h2
  exact ⟨_, L, h1, h2, fun x => ⟨Or.inr, fun hx => hx.elim (fun e => e ▸ hm) id⟩, Turned.mk' m o⟩
 ·obtain ⟨w', h1, h2, h3⟩ := h.add a ha hm
  exact ⟨w', L ++ [a], h1, h2, fun x => by simp [or_comm], h3⟩
def BackTo (l : List EvD) (j : Nat) (L : List OpP) : Prop := ∀ a, a ∈ L ↔ ∃ k x, k < j ∧ l[k]? = some x ∧ x.is a true
theorem back_all {l : List EvD} {L : List OpP} (h : BackTo l l.length L) (a : OpP) : decide (a ∈ L) = !decide (whenP l a true < 0) := by
 rw [Bool.eq_iff_iff]
 simp only [decide_eq_true_eq, Bool.not_eq_true', decide_eq_false_iff_not]
 rw [h a]
 rcases when_spec l a true with ⟨hw, hn⟩ | ⟨i, f, hi, hf, hw, hm⟩
 ·rw [hw]
  exact ⟨fun ⟨k, x, _, hx, hi⟩ => absurd hi (hn k x hx), fun h => by omega⟩
 ·exact ⟨fun _ => by omega, fun _ => ⟨i, f, (List.getElem?_eq_some_iff.1 hi).1, hi, hf⟩⟩
def PbRel (w : World) (l : List EvD) (i : Value) (wr : World) : Prop :=
 ∃ (j : Nat) (L : List OpP), j ≤ l.length ∧ i = .int .i64 j ∧ BackTo l j L ∧ SetW wr w.heap.size L ∧ Below w.heap.size w wr
def penN (l : List EvD) (j : Nat) : List OpP := ((invokedP l).take j).filter fun a => decide (whenP l a true < 0)
theorem penN_len (l : List EvD) (j : Nat) : (penN l j).length ≤ j := by
 unfold penN
 exact Nat.le_trans (List.length_filter_le _ _) (by rw [List.length_take]; omega)
theorem penN_succ {l : List EvD} {j : Nat} {a : OpP} (h : (invokedP l)[j]? = some a) : penN l (j + 1) = penN l j ++ (if whenP l a true < 0 then [a] else []) := by
 unfold penN
 rw [List.take_add_one, h, List.filter_append]
 by_cases he : whenP l a true < 0
 ·simp [he]
 ·simp [he]
theorem penN_all (l : List EvD) : penN l (invokedP l).length = pendingP l := by unfold penN pendingP; rw [List.take_length]
def PnRel (w1 : World) (l : List EvD) (v i : Value) (wr : World) : Prop :=
 ∃ j : Nat, j ≤ (invokedP l).length ∧ i = .int .i64 j ∧ wr.ownsRow w1.heap.size 44 2 v (penN l j).length ((penN l j).flatMap opC2) ∧ Below w1.heap.size w1 wr
set_option maxRecDepth 100000 in
set_option maxHeartbeats 4000000 in
theorem hpending_any (w : World) (A : Option Addr) (c : Nat) (l : List EvD) (fe : EvsFit l) (h : EvsAt w A l) :
  Calls Tryz.prog 20 #[.slice A l.length c] w (OrdPost w (pendingP l)) := by
 have H := Lib.hid h
 have FE := Lib.hid fe
 have hl := fe.len
 clear h fe
 have hmm := make_map78
 have M0 : Hid (SetW (w.alloc (.map #[] 0)) w.heap.size []) := MapW.made w opV Value.bool OpFit
 have B0 := Lib.hid (balZ (Below.refl w.heap.size w) (.map #[] 0))
 go_enter Tryz.func20, Tryz.ntmps20
 go_wp2_with fail
 clear hmm
 go_loopw [12] (fun i wr => PbRel w l i wr) (fun i _ => l.length - (intOf i).toNat)
 case atStart => exact ⟨0, [], by omega, rfl, fun a => by simp, M0.out, B0.out⟩
 case round =>
  obtain ⟨j, L, hj, rfl, hbt, hset, hbw⟩ := hrel
  have BT := Lib.hid hbt
  have ST := Lib.hid hset
  have HB := Lib.hid hbw
  have hsz : w.heap.size < wr.heap.size := MapW.lt hset
  clear hbt hset hbw
  by_cases hlt : j < l.length
  ·obtain ⟨e, hx⟩ : ∃ e, l[j]? = some e := ⟨_, List.getElem?_eq_getElem hlt⟩
   obtain ⟨b, off, rfl, hb, hc⟩ := (H.out.below HB.out) (by omega)
   have hmem := List.mem_of_getElem? hx
   have FO : Hid (OpFit e.op) := ⟨FE.out.thread e hmem, FE.out.index e hmem⟩
   obtain ⟨e0, e1, e2⟩ := ev_cells (hc j e hx)
   obtain ⟨g0, g1, g2, g3, g4, g5, g6, g7⟩ := ev_res (hc j e hx)
   have hj0 : (0 : Int) ≤ j := by omega
   have hj1 : (j : Int) < l.length := by omega
   have HX := Lib.hid hx
   clear hx hc hmem
   obtain ⟨th, ix, rt, rs⟩ := e
   simp only at e0 e1 e2 g0 g1 g2 g3 g4 g5 g6 g7
   go_upto_region 5 with fail
   obtain ⟨W1, hW1⟩ : ∃ W1, W1 = wr.alloc (.cells #[.int .i64 th, .int .i64 ix, .bool rt, .int .i64 rs.err, .bool rs.found, .int .u64 rs.value, .string rs.key, .int .i64 rs.count, .int .i64 rs.ref, .int .i64 rs.root, .bool rs.ro] 72) := ⟨_, rfl⟩
   have B1 : Hid (Below wr.heap.size wr W1) := by rw [hW1]; exact balZ (Below.refl _ _) _
   have KV : Hid (W1.heap[wr.heap.size]? = some (.cells #[.int .i64 th, .int .i64 ix, .bool rt, .int .i64 rs.err, .bool rs.found, .int .u64 rs.value, .string rs.key, .int .i64 rs.count, .int .i64 rs.ref, .int .i64 rs.root, .bool rs.ro] 72 (0, 0))) := by rw [hW1]; exact (heap_alloc wr _).1
   have BW1 := Lib.hid (HB.out.trans (B1.out.mono HB.out.size))
   have ST1 := Lib.hid (ST.out.keep B1.out)
   rw [← hW1]
   clear hW1 e0 e1 e2 g0 g1 g2 g3 g4 g5 g6 g7 B1
   generalize hzb : wr.heap.size = zb at *
   clear hzb
   obtain ⟨y0, y1, y2, y3, y4, y5, y6, y7, y8, y9, y10⟩ := ev_box KV.out
   cases rt with
   | false =>
    have RR : Hid (PbRel w l (.int .i64 ((j : Int) + 1)) W1) := by
     refine ⟨j + 1, L, by omega, by go_num, fun a => ?_, ST1.out, BW1.out⟩
     rw [BT.out a]
     refine ⟨fun ⟨k, x, hk, hx, hi⟩ => ⟨k, x, by omega, hx, hi⟩, fun ⟨k, x, hk, hx, hi⟩ => ⟨k, x, ?_, hx, hi⟩⟩
     by_cases hkj : k = j
     ·subst hkj; rw [HX.out] at hx; obtain rfl := Option.some.inj hx; cases hi.2.2
     ·omega
    go_wp2_with fail
    go_roundw
    case rel => exact RR.out
    case measure => simp [intOf]; omega
   | true =>
    go_wp2_with (first | (go_at_call 31; refine stopAt ?_))
    unfold StopAt
    refine (hoper_any W1 th ix true rs.err rs.found rs.value rs.key rs.count rs.ref rs.root rs.ro).mono ?_
    rintro e w1 ⟨rfl, hb1⟩
    have ST2 := Lib.hid (ST1.out.keep hb1)
    have BW2 := Lib.hid (BW1.out.trans (hb1.mono BW1.out.size))
    clear hb1 y0 y1 y2 y3 y4 y5 y6 y7 y8 y9 y10
    obtain ⟨w6, L', hrun, hs6, hm6, ht6⟩ := ST2.out.put (th, ix) FO.out
    simp only at hrun
    have RR : Hid (PbRel w l (.int .i64 ((j : Int) + 1)) w6) := by
     refine ⟨j + 1, L', by omega, by go_num, fun a => ?_, hs6, turned_belowZ BW2.out ht6 (Nat.le_refl _)⟩
     rw [hm6 a, BT.out a]
     constructor
     ·rintro (rfl | ⟨k, x, hk, hx, hi⟩)
      ·exact ⟨j, _, by omega, HX.out, rfl, rfl, rfl⟩
      ·exact ⟨k, x, by omega, hx, hi⟩
     ·rintro ⟨k, x, hk, hx, hi⟩
      by_cases hkj : k = j
      ·subst hkj; rw [HX.out] at hx; obtain rfl := Option.some.inj hx; exact Or.inl (Prod.ext hi.1.symm hi.2.1.symm)
      ·exact Or.inr ⟨k, x, by omega, hx, hi⟩
    clear hs6 hm6 ht6
    go_wp2_with fail
    go_roundw
    case rel => exact RR.out
    case measure => simp [intOf]; omega
  ·have hje : j = l.length := by omega
   subst hje
   have BK := Lib.hid (fun a => back_all BT.out a)
   have H2 := Lib.hid (H.out.below HB.out)
   go_wp2_with (first | (go_at_call 13; refine stopAt ?_))
   unfold StopAt
   refine (hinvoked_any wr A c l FE.out H2.out).mono ?_
   rintro e w1 ⟨A2, c2, rfl, ho, hb1⟩
   have O1 := Lib.hid ho
   have ST1 := Lib.hid (ST.out.keep hb1)
   have BW1 := Lib.hid (HB.out.trans (hb1.mono HB.out.size))
   have IF := Lib.hid (inv_fitH FE.out)
   have hin : (invokedP l).length ≤ l.length := invN_len l l.length
   have hw1 : w.heap.size < w1.heap.size := Nat.lt_of_lt_of_le hsz hb1.size
   clear ho hb1
   go_wp2_with fail
   go_loopw [6, 25] (fun v i wr => PnRel w1 l v i wr) (fun _ i _ => (invokedP l).length - (intOf i).toNat)
   case atStart => exact ⟨0, by omega, rfl, World.ownsRow_nil _ _ _ _, Below.refl _ _⟩
   case round =>
    obtain ⟨j, hj, rfl, hown, hbw⟩ := hrel
    have HO := Lib.hid hown
    have HB3 := Lib.hid hbw
    have hsz3 : w1.heap.size ≤ wr.heap.size := hbw.size
    have hln := penN_len l j
    clear hown hbw
    by_cases hlt : j < (invokedP l).length
    ·obtain ⟨a, hx⟩ : ∃ a, (invokedP l)[j]? = some a := ⟨_, List.getElem?_eq_getElem hlt⟩
     obtain ⟨b, off, rfl, hb, hc⟩ := (O1.out.below HB3.out) (by omega)
     obtain ⟨z0, z1⟩ := hc j a hx
     have FO := Lib.hid (IF.out a (List.mem_of_getElem? hx))
     have NX := Lib.hid (penN_succ hx)
     have hj0 : (0 : Int) ≤ j := by omega
     have hj1 : (j : Int) < (invokedP l).length := by omega
     have BA := Lib.hid (BK.out a)
     clear hx hc
     obtain ⟨a0, a1⟩ := a
     simp only at z0 z1
     go_upto_region 12 with fail
     obtain ⟨W2, hW2⟩ : ∃ W2, W2 = wr.alloc (.cells #[.int .i64 a0, .int .i64 a1] 44) := ⟨_, rfl⟩
     have B3 : Hid (Below wr.heap.size wr W2) := by rw [hW2]; exact balZ (Below.refl _ _) _
     have KA : Hid (W2.heap[wr.heap.size]? = some (opBox (a0, a1))) := by rw [hW2]; exact (heap_alloc wr _).1
     have BW3 := Lib.hid (HB3.out.trans (B3.out.mono HB3.out.size))
     have ST3 := Lib.hid (ST1.out.keep BW3.out)
     have HO3 := Lib.hid (row_keep HO.out (fun g hg => B3.out.block g (row_lt HO.out hg)))
     have hz3 : w1.heap.size ≤ W2.heap.size := BW3.out.size
     rw [← hW2]
     clear hW2 z0 z1 B3
     generalize hzb : wr.heap.size = zb at *
     clear hzb
     obtain ⟨x0, x1⟩ := opBox_cells KA.out
     simp only at x0 x1
     have LK := ST3.out.look (a0, a1) FO.out
     simp only at LK
     rw [BA.out] at LK
     by_cases hw : whenP l (a0, a1) true < 0
     ·have NY := Lib.hid (NX.out.trans (by rw [if_pos hw]))
      rw [decide_eq_true hw] at LK
      simp only [Bool.not_true] at LK
      clear hw
      go_wp2_with (at_builtin; refine stopAt ?_)
      unfold StopAt
      refine wpList_app 42 44 Tryz.underlying42 _ 2 16 opInfo rfl (by decide) rfl _ _ rfl w1.heap.size _ u6 _ _ rfl (HO3.out.alloc _) ⟨W2.heap.size, 0, none⟩ 1 1 (opC2 (a0, a1)) rfl rfl ?_ ?_ ?_ ?_ ?_ ?_
      ·exact opC2_box (heap_alloc W2 _).1
      ·intro u hu
       simp only [opC2, List.mem_cons, List.not_mem_nil, or_false] at hu
       rcases hu with rfl | rfl <;> rfl
      ·simp; omega
      ·unfold maxLen; omega
      ·omega
      intro a3 c3 w3 ho3 hg3
      have RR : Hid (PnRel w1 l (.slice a3 ((penN l j).length + 1) c3) (.int .i64 ((j : Int) + 1)) w3) := by
       refine ⟨j + 1, by omega, by go_num, ?_, ?_⟩
       ·rw [NY.out, List.length_append, List.flatMap_append]; exact ho3
       ·exact BW3.out.trans (grown_below hg3 (by omega) (fun k hk => (row_kind HO3.out hk).1))
      clear ho3 hg3
      go_wp2_with fail
      go_roundw
      case rel => exact RR.out
      case measure => simp [intOf]; omega
     ·have RR : Hid (PnRel w1 l u6 (.int .i64 ((j : Int) + 1)) W2) := by
       refine ⟨j + 1, by omega, by go_num, ?_, BW3.out⟩
       rw [NX.out, if_neg hw, List.append_nil]
       exact HO3.out
      rw [decide_eq_false hw] at LK
      simp only [Bool.not_false] at LK
      clear hw
      go_wp2_with fail
      go_roundw
      case rel => exact RR.out
      case measure => simp [intOf]; omega
    ·have hje : j = (invokedP l).length := by omega
     have TT := Lib.hid hje
     obtain ⟨A4, c4, hv⟩ := row_form HO.out
     clear hje
     go_wp2_with fail
     go_ret
     subst hv
     rw [TT.out, penN_all] at HO
     exact ⟨A4, c4, by rw [TT.out, penN_all]; rfl, ordAt_of_row HO.out rfl, BW1.out.trans (HB3.out.mono BW1.out.size)⟩
def awO : OpD := ⟨0, 0, ⟨#[]⟩, 0, 0⟩
def awT : List (List OpD) := [[awO, awO], [awO]]
def awL : List EvD := [⟨0, 0, false, ResF.zero⟩, ⟨1, 0, false, ResF.zero⟩, ⟨0, 0, true, ResF.zero⟩, ⟨0, 1, false, ResF.zero⟩]
theorem aw_proper : ProperP (lens awT) awL := fun i e h => by
 match i, h with
 | 0, h =>
  simp only [awL, List.getElem?_cons_zero, List.getElem?_cons_succ, Option.some.injEq] at h
  subst h
  exact ⟨by decide, by decide, by decide, (fun n hn => by (have hn : (2 : Nat) = n := by simpa [lens, awT] using hn); subst hn; decide), by decide, fun _ => rfl⟩
 | 1, h =>
  simp only [awL, List.getElem?_cons_zero, List.getElem?_cons_succ, Option.some.injEq] at h
  subst h
  exact ⟨by decide, by decide, by decide, (fun n hn => by (have hn : (1 : Nat) = n := by simpa [lens, awT] using hn); subst hn; decide), by decide, fun _ => rfl⟩
 | 2, h =>
  simp only [awL, List.getElem?_cons_zero, List.getElem?_cons_succ, Option.some.injEq] at h
  subst h
  exact ⟨by decide, by decide, by decide, (fun n hn => by (have hn : (2 : Nat) = n := by simpa [lens, awT] using hn); subst hn; decide), by decide, fun _ => rfl⟩
 | 3, h =>
  simp only [awL, List.getElem?_cons_zero, List.getElem?_cons_succ, Option.some.injEq] at h
  subst h
  exact ⟨by decide, by decide, by decide, (fun n hn => by (have hn : (2 : Nat) = n := by simpa [lens, awT] using hn); subst hn; decide), by decide, fun _ => rfl⟩
 | i + 4, h => simp [awL] at h
theorem aw_check : checkP (lens awT) awL = 0 := check_ok (by simp [BigP, lens, awT]) aw_proper
theorem aw_bef1 : beforeP awL (0, 0) (0, 1) = true := by decide
theorem aw_bef2 : beforeP awL (0, 0) (1, 0) = false := by decide
theorem aw_pend : pendingP awL = [(1, 0), (0, 1)] := by decide
theorem aw_evs : EvsFit awL := ⟨by decide, fun e he => by simp [awL] at he; rcases he with rfl | rfl | rfl | rfl <;> (unfold I64; decide), fun e he => by simp [awL] at he; rcases he with rfl | rfl | rfl | rfl <;> (unfold I64; decide), fun e he => by simp [awL] at he; rcases he with rfl | rfl | rfl | rfl <;> exact zero_fit⟩
theorem aw_thr : ThrFit awT := ⟨by decide, fun t ht => by simp [awT] at ht; rcases ht with rfl | rfl <;> decide⟩
theorem thr_aw {W : World} {a b t : Nat} {T U : TypeId} (h0 : W.heap[a]? = some (.cells #[.int .i64 0, .int .i64 0, .string ⟨#[]⟩, .int .u64 0, .int .u64 0, .int .i64 0, .int .i64 0, .string ⟨#[]⟩, .int .u64 0, .int .u64 0] T (0, 0))) (h1 : W.heap[b]? = some (.cells #[.int .i64 0, .int .i64 0, .string ⟨#[]⟩, .int .u64 0, .int .u64 0] T (0, 0)))
  (h2 : W.heap[t]? = some (.cells #[.slice (some ⟨a, 0, none⟩) 2 2, .slice (some ⟨b, 0, none⟩) 1 1] U (0, 0))) : ThrAt W (some ⟨t, 0, none⟩) awT := fun _ => by
 refine ⟨t, 0, rfl, (Array.getElem?_eq_some_iff.1 h2).1, fun i x hx => ?_⟩
 match i, hx with
 | 0, hx =>
  simp only [awT, List.getElem?_cons_zero, Option.some.injEq] at hx
  subst hx
  refine ⟨some ⟨a, 0, none⟩, 2, by rw [blk_cell h2]; rfl, fun _ => ⟨a, 0, rfl, (Array.getElem?_eq_some_iff.1 h0).1, fun k o ho => ?_⟩⟩
  match k, ho with
  | 0, ho =>
   simp only [List.getElem?_cons_zero, Option.some.injEq] at ho
   subst ho
   exact ⟨blk_cell h0 0, blk_cell h0 1, blk_cell h0 2, blk_cell h0 3, blk_cell h0 4⟩
  | 1, ho =>
   simp only [List.getElem?_cons_zero, List.getElem?_cons_succ, Option.some.injEq] at ho
   subst ho
   exact ⟨blk_cell h0 5, blk_cell h0 6, blk_cell h0 7, blk_cell h0 8, blk_cell h0 9⟩
  | k + 2, ho => simp at ho
 | 1, hx =>
  simp only [awT, List.getElem?_cons_succ, List.getElem?_cons_zero, Option.some.injEq] at hx
  subst hx
  refine ⟨some ⟨b, 0, none⟩, 1, by rw [blk_cell h2]; rfl, fun _ => ⟨b, 0, rfl, (Array.getElem?_eq_some_iff.1 h1).1, fun k o ho => ?_⟩⟩
  match k, ho with
  | 0, ho =>
   simp only [List.getElem?_cons_zero, Option.some.injEq] at ho
   subst ho
   exact ⟨blk_cell h1 0, blk_cell h1 1, blk_cell h1 2, blk_cell h1 3, blk_cell h1 4⟩
  | k + 1, ho => simp at ho
 | i + 2, hx => simp [awT] at hx
theorem ord_two {W : World} {b : Nat} {T : TypeId} {x y : OpP} (h : W.heap[b]? = some (.cells #[.int .i64 x.1, .int .i64 x.2, .int .i64 y.1, .int .i64 y.2] T (0, 0))) : OrdAt W (some ⟨b, 0, none⟩) [x, y] := fun _ =>
 ⟨b, 0, rfl, (Array.getElem?_eq_some_iff.1 h).1, fun k a ha => by
  match k, ha with
  | 0, ha => simp only [List.getElem?_cons_zero, Option.some.injEq] at ha; subst ha; exact ⟨blk_cell h 0, blk_cell h 1⟩
  | 1, ha => simp only [List.getElem?_cons_succ, List.getElem?_cons_zero, Option.some.injEq] at ha; subst ha; exact ⟨blk_cell h 2, blk_cell h 3⟩
  | k + 2, ha => simp at ha⟩
theorem four_mem (w : World) (o1 o2 o3 o4 : Obj) : Below w.heap.size w ((((w.alloc o1).alloc o2).alloc o3).alloc o4) ∧ ((((w.alloc o1).alloc o2).alloc o3).alloc o4).heap[w.heap.size]? = some o1 ∧ ((((w.alloc o1).alloc o2).alloc o3).alloc o4).heap[w.heap.size + 1]? = some o2 ∧ ((((w.alloc o1).alloc o2).alloc o3).alloc o4).heap[w.heap.size + 1 + 1]? = some o3 ∧ ((((w.alloc o1).alloc o2).alloc o3).alloc o4).heap[w.heap.size + 1 + 1 + 1]? = some o4 := by
 have s1 : (w.alloc o1).heap.size = w.heap.size + 1 := by simp
 have s2 : ((w.alloc o1).alloc o2).heap.size = w.heap.size + 1 + 1 := by simp
 have s3 : (((w.alloc o1).alloc o2).alloc o3).heap.size = w.heap.size + 1 + 1 + 1 := by simp
 have k : ∀ (W : World) (o : Obj) (b : Nat), b < W.heap.size → (W.alloc o).heap[b]? = W.heap[b]? := fun W o b hb => Below.heap_alloc _ _ _ hb
 refine ⟨balZ (balZ (balZ (balZ (Below.refl _ _) _) _) _) _, ?_, ?_, ?_, ?_⟩
 ·rw [k _ _ _ (by omega), k _ _ _ (by omega), k _ _ _ (by omega)]; exact (heap_alloc w o1).1
 ·rw [k _ _ _ (by omega), k _ _ _ (by omega), ← s1]; exact (heap_alloc _ o2).1
 ·rw [k _ _ _ (by omega), ← s2]; exact (heap_alloc _ o3).1
 ·rw [← s3]; exact (heap_alloc _ o4).1
set_option maxRecDepth 100000 in
set_option maxHeartbeats 4000000 in
theorem awake_any (w : World) : Calls Tryz.prog 11 #[] w fun e w' => e = .returned (.bool true) ∧ Below w.heap.size w w' := by
 have FM := four_mem w (.cells #[.int .i64 0, .int .i64 0, .bool false, .int .i64 0, .bool false, .int .u64 0, .string ⟨#[]⟩, .int .i64 0, .int .i64 0, .int .i64 0, .bool false, .int .i64 1, .int .i64 0, .bool false, .int .i64 0, .bool false, .int .u64 0, .string ⟨#[]⟩, .int .i64 0, .int .i64 0, .int .i64 0, .bool false, .int .i64 0, .int .i64 0, .bool true, .int .i64 0, .bool false, .int .u64 0, .string ⟨#[]⟩, .int .i64 0, .int .i64 0, .int .i64 0, .bool false, .int .i64 0, .int .i64 1, .bool false, .int .i64 0, .bool false, .int .u64 0, .string ⟨#[]⟩, .int .i64 0, .int .i64 0, .int .i64 0, .bool false] 72) (.cells #[.int .i64 0, .int .i64 0, .string ⟨#[]⟩, .int .u64 0, .int .u64 0, .int .i64 0, .int .i64 0, .string ⟨#[]⟩, .int .u64 0, .int .u64 0] 68) (.cells #[.int .i64 0, .int .i64 0, .string ⟨#[]⟩, .int .u64 0, .int .u64 0] 68) (.cells #[.slice (some ⟨w.heap.size + 1, 0, none⟩) 2 2, .slice (some ⟨w.heap.size + 1 + 1, 0, none⟩) 1 1] 66)
 go_enter Tryz.func11, Tryz.ntmps11
 go_upto_region 3 with fail
 generalize (((w.alloc (.cells #[.int .i64 0, .int .i64 0, .bool false, .int .i64 0, .bool false, .int .u64 0, .string ⟨#[]⟩, .int .i64 0, .int .i64 0, .int .i64 0, .bool false, .int .i64 1, .int .i64 0, .bool false, .int .i64 0, .bool false, .int .u64 0, .string ⟨#[]⟩, .int .i64 0, .int .i64 0, .int .i64 0, .bool false, .int .i64 0, .int .i64 0, .bool true, .int .i64 0, .bool false, .int .u64 0, .string ⟨#[]⟩, .int .i64 0, .int .i64 0, .int .i64 0, .bool false, .int .i64 0, .int .i64 1, .bool false, .int .i64 0, .bool false, .int .u64 0, .string ⟨#[]⟩, .int .i64 0, .int .i64 0, .int .i64 0, .bool false] 72)).alloc (.cells #[.int .i64 0, .int .i64 0, .string ⟨#[]⟩, .int .u64 0, .int .u64 0, .int .i64 0, .int .i64 0, .string ⟨#[]⟩, .int .u64 0, .int .u64 0] 68)).alloc (.cells #[.int .i64 0, .int .i64 0, .string ⟨#[]⟩, .int .u64 0, .int .u64 0] 68)).alloc (.cells #[.slice (some ⟨w.heap.size + 1, 0, none⟩) 2 2, .slice (some ⟨w.heap.size + 1 + 1, 0, none⟩) 1 1] 66) = W0 at *
 obtain ⟨h0, h1, h2, h3, h4⟩ := FM
 have B0 := Lib.hid h0
 have EV : Hid (EvsAt W0 (some ⟨w.heap.size, 0, none⟩) awL) := evs_box (l := awL) h1
 have TH : Hid (ThrAt W0 (some ⟨w.heap.size + 1 + 1 + 1, 0, none⟩) awT) := thr_aw h2 h3 h4
 clear h0 h1 h2 h3 h4
 go_wp2_with (first | (go_at_call 12; refine stopAt ?_))
 unfold StopAt
 refine (hcheck_any W0 (some ⟨w.heap.size + 1 + 1 + 1, 0, none⟩) (some ⟨w.heap.size, 0, none⟩) 2 4 awT awL TH.out EV.out aw_thr aw_evs).mono ?_
 rintro e w1 ⟨rfl, hb1⟩
 rw [aw_check]
 have B1 := Lib.hid (B0.out.trans (hb1.mono B0.out.size))
 have E1 := Lib.hid (EV.out.below hb1)
 clear hb1
 go_wp2_with (first | (go_at_call 14; refine stopAt ?_))
 unfold StopAt
 refine (hbefore_any w1 (some ⟨w.heap.size, 0, none⟩) 4 awL aw_evs E1.out (0, 0) (0, 1) (by unfold OpFit; decide) (by unfold OpFit; decide)).mono ?_
 rintro e w2 ⟨rfl, hb2⟩
 rw [aw_bef1]
 have B2 := Lib.hid (B1.out.trans (hb2.mono B1.out.size))
 have E2 := Lib.hid (E1.out.below hb2)
 clear hb2
 go_wp2_with (first | (go_at_call 14; refine stopAt ?_))
 unfold StopAt
 refine (hbefore_any w2 (some ⟨w.heap.size, 0, none⟩) 4 awL aw_evs E2.out (0, 0) (1, 0) (by unfold OpFit; decide) (by unfold OpFit; decide)).mono ?_
 rintro e w3 ⟨rfl, hb3⟩
 rw [aw_bef2]
 have B3 := Lib.hid (B2.out.trans (hb3.mono B2.out.size))
 have E3 := Lib.hid (E2.out.below hb3)
 clear hb3
 go_wp2_with (first | (go_at_call 20; refine stopAt ?_))
 unfold StopAt
 refine (hpending_any w3 (some ⟨w.heap.size, 0, none⟩) 4 awL aw_evs E3.out).mono ?_
 rintro e w4 ⟨A4, c4, rfl, ho, hb4⟩
 rw [aw_pend] at ho ⊢
 have B4 := Lib.hid (B3.out.trans (hb4.mono B3.out.size))
 have O4 := Lib.hid ho
 clear hb4 ho
 go_wp2_with (first | (go_at_call 29; refine stopAt ?_))
 unfold StopAt
 have FO : OrdFit [(1, 0), (0, 1)] := by intro a ha; simp at ha; rcases ha with rfl | rfl <;> (unfold OpFit; decide)
 have hb5 := balZ (Below.refl w4.heap.size w4) (.cells #[.int .i64 1, .int .i64 0, .int .i64 0, .int .i64 1] 44)
 refine (rsame_any _ A4 (some ⟨w4.heap.size, 0, none⟩) c4 2 [(1, 0), (0, 1)] [(1, 0), (0, 1)] (O4.out.below hb5) (ord_two (x := (1, 0)) (y := (0, 1)) (heap_alloc w4 _).1) FO FO (by decide) (by decide)).mono ?_
 rintro e w6 ⟨rfl, hb6⟩
 rw [decide_eq_true rfl]
 have hb6' := hb5.trans (hb6.mono hb5.size)
 have B6 := Lib.hid (B4.out.trans (hb6'.mono B4.out.size))
 clear hb6 hb6' hb5 FO
 go_wp2_with fail
 go_ret
 exact ⟨rfl, B6.out⟩
def HrRel (w : World) (l : List EvD) (a : OpP) (i : Value) (wr : World) : Prop :=
 ∃ j : Nat, j ≤ l.length ∧ i = .int .i64 j ∧ (∀ k x, k < j → l[k]? = some x → ¬ x.is a true) ∧ wr.heap[w.heap.size]? = some (opBox a) ∧ wr.heap[w.heap.size + 1]? = some (.cells #[.int .i64 0, .bool false, .int .u64 0, .string ⟨#[]⟩, .int .i64 0, .int .i64 0, .int .i64 0, .bool false] 56 (0, 0)) ∧ Below w.heap.size w wr
theorem result_hit {l : List EvD} {a : OpP} {j : Nat} {e : EvD} (hj : l[j]? = some e) (he : e.is a true) (hn : ∀ k x, k < j → l[k]? = some x → ¬ x.is a true) : resultP l a = some e.res := by
 unfold resultP
 rw [when_hit hj he hn, if_neg (by omega), Int.toNat_natCast, hj]
 rfl
theorem result_miss {l : List EvD} {a : OpP} (hn : ∀ k x, k < l.length → l[k]? = some x → ¬ x.is a true) : resultP l a = none := result_none.2 (when_miss hn)
set_option maxRecDepth 100000 in
set_option maxHeartbeats 4000000 in
theorem hresult_any (w : World) (A : Option Addr) (c : Nat) (l : List EvD) (fe : EvsFit l) (h : EvsAt w A l) (a : OpP) (fa : OpFit a) :
  Calls Tryz.prog 18 #[.slice A l.length c, .agg #[.int .i64 a.1, .int .i64 a.2]] w fun e w' => e = .returned (resOut (resultP l a)) ∧ Below w.heap.size w w' := by
 have H := Lib.hid h
 have FE := Lib.hid fe
 have hl := fe.len
 have FA := Lib.hid fa
 clear h fe fa
 obtain ⟨a0, a1⟩ := a
 simp only
 go_enter Tryz.func18, Tryz.ntmps18
 go_wp2_with fail
 have B0 : Hid (Below w.heap.size w ((w.alloc (.cells #[.int .i64 a0, .int .i64 a1] 44)).alloc (.cells #[.int .i64 0, .bool false, .int .u64 0, .string ⟨#[]⟩, .int .i64 0, .int .i64 0, .int .i64 0, .bool false] 56))) := balZ (balZ (Below.refl _ _) _) _
 have KA : Hid (((w.alloc (.cells #[.int .i64 a0, .int .i64 a1] 44)).alloc (.cells #[.int .i64 0, .bool false, .int .u64 0, .string ⟨#[]⟩, .int .i64 0, .int .i64 0, .int .i64 0, .bool false] 56)).heap[w.heap.size]? = some (opBox (a0, a1)) ∧ ((w.alloc (.cells #[.int .i64 a0, .int .i64 a1] 44)).alloc (.cells #[.int .i64 0, .bool false, .int .u64 0, .string ⟨#[]⟩, .int .i64 0, .int .i64 0, .int .i64 0, .bool false] 56)).heap[w.heap.size + 1]? = some (.cells #[.int .i64 0, .bool false, .int .u64 0, .string ⟨#[]⟩, .int .i64 0, .int .i64 0, .int .i64 0, .bool false] 56 (0, 0))) := by
  have h1 := (heap_alloc (w.alloc (.cells #[.int .i64 a0, .int .i64 a1] 44)) (.cells #[.int .i64 0, .bool false, .int .u64 0, .string ⟨#[]⟩, .int .i64 0, .int .i64 0, .int .i64 0, .bool false] 56)).1
  have z : (w.alloc (.cells #[.int .i64 a0, .int .i64 a1] 44)).heap.size = w.heap.size + 1 := by simp
  rw [z] at h1
  exact ⟨(Below.heap_alloc _ _ _ (by simp)).trans (heap_alloc w _).1, h1⟩
 go_loopw [10] (fun i wr => HrRel w l (a0, a1) i wr) (fun i _ => l.length - (intOf i).toNat)
 case atStart => exact ⟨0, by omega, rfl, fun k x hk => by omega, KA.out.1, KA.out.2, B0.out⟩
 case round =>
  obtain ⟨j, hj, rfl, hnb, hka, hkb, hbw⟩ := hrel
  have NB := Lib.hid hnb
  have HB := Lib.hid hbw
  have HA1 := Lib.hid hka
  have HB1 := Lib.hid hkb
  clear hnb hka hkb hbw KA B0
  by_cases hlt : j < l.length
  ·obtain ⟨e, hx⟩ : ∃ e, l[j]? = some e := ⟨_, List.getElem?_eq_getElem hlt⟩
   obtain ⟨p, off, rfl, hp, hc⟩ := (H.out.below HB.out) (by omega)
   have hmem := List.mem_of_getElem? hx
   have FO : Hid (OpFit e.op) := ⟨FE.out.thread e hmem, FE.out.index e hmem⟩
   obtain ⟨e0, e1, e2⟩ := ev_cells (hc j e hx)
   obtain ⟨g0, g1, g2, g3, g4, g5, g6, g7⟩ := ev_res (hc j e hx)
   have hj0 : (0 : Int) ≤ j := by omega
   have hj1 : (j : Int) < l.length := by omega
   have HX := Lib.hid hx
   clear hx hc hmem
   obtain ⟨th, ix, rt, rs⟩ := e
   simp only at e0 e1 e2 g0 g1 g2 g3 g4 g5 g6 g7
   go_upto_region 4 with fail
   obtain ⟨W1, hW1⟩ : ∃ W1, W1 = wr.alloc (.cells #[.int .i64 th, .int .i64 ix, .bool rt, .int .i64 rs.err, .bool rs.found, .int .u64 rs.value, .string rs.key, .int .i64 rs.count, .int .i64 rs.ref, .int .i64 rs.root, .bool rs.ro] 72) := ⟨_, rfl⟩
   have B1 : Hid (Below wr.heap.size wr W1) := by rw [hW1]; exact balZ (Below.refl _ _) _
   have KV : Hid (W1.heap[wr.heap.size]? = some (.cells #[.int .i64 th, .int .i64 ix, .bool rt, .int .i64 rs.err, .bool rs.found, .int .u64 rs.value, .string rs.key, .int .i64 rs.count, .int .i64 rs.ref, .int .i64 rs.root, .bool rs.ro] 72 (0, 0))) := by rw [hW1]; exact (heap_alloc wr _).1
   have BW1 := Lib.hid (HB.out.trans (B1.out.mono HB.out.size))
   have HA2 := Lib.hid (kept_block' HA1.out B1.out)
   have HB2 := Lib.hid (kept_block' HB1.out B1.out)
   rw [← hW1]
   clear hW1 e0 e1 e2 g0 g1 g2 g3 g4 g5 g6 g7 B1 HA1 HB1
   generalize hzb : wr.heap.size = zb at *
   clear hzb
   have NX : Hid (∀ W, Below W1.heap.size W1 W → ¬ ((⟨th, ix, rt, rs⟩ : EvD).is (a0, a1) true) → HrRel w l (a0, a1) (.int .i64 ((j : Int) + 1)) W) := fun W hW hn =>
    ⟨j + 1, by omega, by go_num, fun k x hk hkx => by
     by_cases hkj : k = j
     ·subst hkj; rw [HX.out] at hkx; obtain rfl := Option.some.inj hkx; exact hn
     ·exact NB.out k x (by omega) hkx, kept_block' HA2.out hW, kept_block' HB2.out hW, BW1.out.trans (hW.mono BW1.out.size)⟩
   have KC : Hid (∀ W, Below W1.heap.size W1 W → (W.cell? ⟨zb, 0, none⟩ = some (.int .i64 th) ∧ W.cell? ⟨zb, 1, none⟩ = some (.int .i64 ix) ∧ W.cell? ⟨zb, 2, none⟩ = some (.bool rt) ∧ W.cell? ⟨zb, 3, none⟩ = some (.int .i64 rs.err) ∧ W.cell? ⟨zb, 4, none⟩ = some (.bool rs.found) ∧ W.cell? ⟨zb, 5, none⟩ = some (.int .u64 rs.value) ∧
     W.cell? ⟨zb, 6, none⟩ = some (.string rs.key) ∧ W.cell? ⟨zb, 7, none⟩ = some (.int .i64 rs.count) ∧ W.cell? ⟨zb, 8, none⟩ = some (.int .i64 rs.ref) ∧ W.cell? ⟨zb, 9, none⟩ = some (.int .i64 rs.root) ∧ W.cell? ⟨zb, 10, none⟩ = some (.bool rs.ro)) ∧ (W.cell? ⟨w.heap.size, 0, none⟩ = some (.int .i64 a0) ∧ W.cell? ⟨w.heap.size, 1, none⟩ = some (.int .i64 a1))) := fun W hW => ⟨ev_box (kept_block' KV.out hW), opBox_cells (kept_block' HA2.out hW)⟩
   have OC : Hid (∀ W, Below W1.heap.size W1 W → Calls Tryz.prog 31 #[.agg #[.int .i64 th, .int .i64 ix, .bool rt, .int .i64 rs.err, .bool rs.found, .int .u64 rs.value, .string rs.key, .int .i64 rs.count, .int .i64 rs.ref, .int .i64 rs.root, .bool rs.ro]] W fun e w' => e = .returned (.agg #[.int .i64 th, .int .i64 ix]) ∧ Below W1.heap.size W1 w') := fun W hW =>
    (hoper_any W th ix rt rs.err rs.found rs.value rs.key rs.count rs.ref rs.root rs.ro).mono fun e w' p => ⟨p.1, hW.trans (p.2.mono hW.size)⟩
   have BD : Hid (Below W1.heap.size W1 W1.drew) := (Below.refl _ _).drew
   cases rt with
   | true =>
    refine wp_region_class (C := fun W => Below W1.heap.size W1 W) (by kernel_rfl) (by kernel_rfl) BD.out ?_
    repeat (first | go_big_quiet_step (fail) | (refine' wpQuiet_take (by kernel_rfl) (fun W _ => quiet_op2 (x := (th, ix)) (y := (a0, a1)) _ _ rfl rfl rfl FO.out FA.out) ?_; simp only [Act.put, List.setIfInBounds_toArray, List.set_cons_zero, List.set_cons_succ]) | (refine' wpQuiet_take (by kernel_rfl) (fun W hW => ?_) ?_; rotate_left; (obtain ⟨⟨y0, y1, y2, y3, y4, y5, y6, y7, y8, y9, y10⟩, x0, x1⟩ := KC.out W hW); go_simp; (first | rfl | (with_reducible exact OC.out _ hW)); (simp only [Act.put, List.setIfInBounds_toArray, List.set_cons_zero, List.set_cons_succ])))
    refine wpQuiet_nil ?_
    intro W2 hW2
    have HW2 := Lib.hid hW2
    clear hW2 BD
    have KC2 := Lib.hid (KC.out W2 HW2.out)
    by_cases he : th = a0 ∧ ix = a1
    ·obtain ⟨rfl, rfl⟩ := he
     have R := Lib.hid (result_hit HX.out (⟨rfl, rfl, rfl⟩ : EvD.is _ (th, ix) true) NB.out)
     have hbox := kept_block' HB2.out HW2.out
     obtain ⟨x0, x1, x2, x3, x4, x5, x6, x7⟩ := res_cells hbox
     obtain ⟨f0, f1, f2, f3, f4, f5, f6, f7⟩ := res_free hbox
     obtain ⟨⟨y0, y1, y2, y3, y4, y5, y6, y7, y8, y9, y10⟩, _⟩ := KC2.out
     have BB := Lib.hid (BW1.out.trans (HW2.out.mono BW1.out.size))
     clear hbox
     simp only [decide_true, Bool.and_self]
     go_wp2_with fail
     refine bodyPost_ret (v := .tuple #[resV rs, .bool true]) (by simp [results, Tryz.results18, go_sem, resV, x0, x1, x2, x3, x4, x5, x6, x7]) rfl ⟨?_, ?_⟩
     ·rw [R.out]; rfl
     ·repeat (refine below_set ?_ (by omega))
      exact BB.out
    ·have hd : (decide (th = a0) && decide (ix = a1)) = false := by
      rw [Bool.eq_false_iff]; intro hh; exact he (by simpa using hh)
     have HN := Lib.hid (show ¬ ((⟨th, ix, true, rs⟩ : EvD).is (a0, a1) true) from fun hh => he ⟨hh.1, hh.2.1⟩)
     rw [hd]
     clear hd he
     go_wp2_with fail
     go_roundw
     case rel => exact NX.out _ HW2.out HN.out
     case measure => simp [intOf]; omega
   | false =>
    have HN := Lib.hid (show ¬ ((⟨th, ix, false, rs⟩ : EvD).is (a0, a1) true) from fun hh => by cases hh.2.2)
    obtain ⟨⟨y0, y1, y2, y3, y4, y5, y6, y7, y8, y9, y10⟩, x0, x1⟩ := KC.out W1 (Below.refl _ _)
    go_quiet (fail)
    go_wp2_with fail
    go_roundw
    case rel => exact NX.out _ (below_drewN (Below.refl _ _) _) HN.out
    case measure => simp [intOf]; omega
  ·have hje : j = l.length := by omega
   have R := Lib.hid (result_miss (a := (a0, a1)) (l := l) (fun k x hk hx => NB.out k x (by omega) hx))
   clear hje
   obtain ⟨x0, x1, x2, x3, x4, x5, x6, x7⟩ := res_cells HB1.out
   obtain ⟨f0, f1, f2, f3, f4, f5, f6, f7⟩ := res_free HB1.out
   go_wp2_with fail
   refine bodyPost_ret (v := .tuple #[resV ResF.zero, .bool false]) (by simp [results, Tryz.results18, go_sem, resV, ResF.zero, x0, x1, x2, x3, x4, x5, x6, x7]) rfl ⟨?_, ?_⟩
   ·rw [R.out]; rfl
   ·repeat (refine below_set ?_ (by omega))
    exact HB.out
end Go.Proofs.YtpabdmcbahmjnaaGreat
