/- Part of a proof: ZB ZI ZH ZE ZQ ZHa ZU ZT ZFs. -/
import Derived.Test.YtpabdmcbahmjnaaGreatMA5
import Derived.Test.YtpabdmcbahmjnaaGreatMA3
import Derived.Test.YtpabdmcbahmjnaaGreatMA4
import Derived.Deep.RegionHeld3
import Derived.Deep.QuietTactic
import Derived.BigQuiet
namespace Go.Proofs.YtpabdmcbahmjnaaGreat
open Go Go.RowKit Go.MapKept
set_option linter.unusedSimpArgs false
set_option linter.unusedVariables false
theorem balZ {a w : World} (h : Below a.heap.size a w) (o : Obj) : Below a.heap.size a (w.alloc o) := h.alloc h.size o
def opBox (a : OpP) : Obj := .cells #[.int .i64 a.1, .int .i64 a.2] 44
theorem opBox_cells {W : World} {b : Nat} {a : OpP} (h : W.heap[b]? = some (opBox a)) : W.cell? ⟨b, 0, none⟩ = some (.int .i64 a.1) ∧ W.cell? ⟨b, 1, none⟩ = some (.int .i64 a.2) := ⟨blk_cell h 0, blk_cell h 1⟩
theorem opBox_kept {W0 W : World} {b : Nat} {a : OpP} (h : W0.heap[b]? = some (opBox a)) (hb : Below W0.heap.size W0 W) : W.heap[b]? = some (opBox a) := (hb.block b (Array.getElem?_eq_some_iff.1 h).1).trans h
set_option maxRecDepth 100000 in
set_option maxHeartbeats 1000000 in
theorem before_any (w : World) (A : Option Addr) (c : Nat) (l : List EvD) (hl : l.length ≤ 1048576) (h : EvsAt w A l) (a0 a1 b0 b1 : Int) :
  Calls Tryz.prog 34 #[.slice A l.length c, .agg #[.int .i64 a0, .int .i64 a1], .agg #[.int .i64 b0, .int .i64 b1]] w fun e w' => e = .returned (.bool (beforeP l (a0, a1) (b0, b1))) ∧ Below w.heap.size w w' := by
 have H := Lib.hid h
 clear h
 go_enter Tryz.func34, Tryz.ntmps34
 go_wp2_with fail
 obtain ⟨W0, hW0⟩ : ∃ W0, W0 = (w.alloc (.cells #[.int .i64 a0, .int .i64 a1] 44)).alloc (.cells #[.int .i64 b0, .int .i64 b1] 44) := ⟨_, rfl⟩
 have BX : Hid (Below w.heap.size w W0) := by rw [hW0]; exact balZ (balZ (Below.refl _ _) _) _
 have KA : Hid (W0.heap[w.heap.size]? = some (opBox (a0, a1)) ∧ W0.heap[w.heap.size + 1]? = some (opBox (b0, b1))) := by
  rw [hW0]
  have h1 := (heap_alloc (w.alloc (.cells #[.int .i64 a0, .int .i64 a1] 44)) (.cells #[.int .i64 b0, .int .i64 b1] 44)).1
  have z : (w.alloc (.cells #[.int .i64 a0, .int .i64 a1] 44)).heap.size = w.heap.size + 1 := by simp
  rw [z] at h1
  exact ⟨(Below.heap_alloc _ _ _ (by simp)).trans (heap_alloc w _).1, h1⟩
 have KC : Hid (∀ W, Below W0.heap.size W0 W → (W.cell? ⟨w.heap.size, 0, none⟩ = some (.int .i64 a0) ∧ W.cell? ⟨w.heap.size, 1, none⟩ = some (.int .i64 a1)) ∧ W.cell? ⟨w.heap.size + 1, 0, none⟩ = some (.int .i64 b0) ∧ W.cell? ⟨w.heap.size + 1, 1, none⟩ = some (.int .i64 b1)) :=
  fun W hW => ⟨opBox_cells (opBox_kept KA.out.1 hW), opBox_cells (opBox_kept KA.out.2 hW)⟩
 have WH : Hid (∀ (x y : Int) (b : Bool) W, Below W0.heap.size W0 W → Calls Tryz.prog 50 #[.slice A l.length c, .agg #[.int .i64 x, .int .i64 y], .bool b] W fun e w' => e = .returned (.int .i64 (whenP l (x, y) b)) ∧ Below W0.heap.size W0 w') :=
  fun x y b W hW => (when_any W A c l hl ((H.out.below BX.out).below hW) x y b).mono fun e w' p => ⟨p.1, hW.trans (p.2.mono hW.size)⟩
 have B1 : Hid (Below W0.heap.size W0 W0.drew) := (Below.refl _ _).drew
 rw [← hW0]
 clear hW0
 have l1 := when_lo l (a0, a1) true
 have l2 := when_hi l (a0, a1) true
 have l3 := when_lo l (b0, b1) false
 have l4 := when_hi l (b0, b1) false
 have R : Hid (beforeP l (a0, a1) (b0, b1) = (decide (0 ≤ whenP l (a0, a1) true) && decide (whenP l (a0, a1) true < whenP l (b0, b1) false))) := rfl
 generalize hx : whenP l (a0, a1) true = x at *
 generalize hy : whenP l (b0, b1) false = y at *
 have HXY := Lib.hid (And.intro hx hy)
 clear hx hy
 refine wp_region_class (C := fun W => Below W0.heap.size W0 W) (by kernel_rfl) (by kernel_rfl) B1.out ?_
 repeat (first | go_big_quiet_step (fail) | (refine' wpQuiet_take (by kernel_rfl) (fun W hW => ?_) ?_; rotate_left; (obtain ⟨⟨x0, x1⟩, x2, x3⟩ := KC.out W hW); go_simp; (first | rfl | (with_reducible exact WH.out _ _ _ _ hW)); (simp only [Act.put, List.setIfInBounds_toArray, List.set_cons_zero, List.set_cons_succ])))
 refine wpQuiet_nil ?_
 intro w2 hb2
 have B2 := Lib.hid (BX.out.trans (hb2.mono BX.out.size))
 clear hb2
 rw [HXY.out.1, HXY.out.2]
 by_cases h0 : 0 ≤ x
 ·by_cases h1 : x < y
  ·have R2 := Lib.hid (show beforeP l (a0, a1) (b0, b1) = true by rw [R.out]; simp [h0, h1])
   go_wp2_with fail
   go_ret
   exact ⟨ret_bool R2.out.symm, B2.out⟩
  ·have R2 := Lib.hid (show beforeP l (a0, a1) (b0, b1) = false by rw [R.out]; simp [h1])
   go_wp2_with fail
   go_ret
   exact ⟨ret_bool R2.out.symm, B2.out⟩
 ·have R2 := Lib.hid (show beforeP l (a0, a1) (b0, b1) = false by rw [R.out]; simp [h0])
  go_wp2_with fail
  go_ret
  exact ⟨ret_bool R2.out.symm, B2.out⟩
theorem below_set {B : Nat} {a b : World} (h : Below B a b) {k j : Nat} {v : Value} (hk : B ≤ k) : Below B a (b.setCell ⟨k, j, none⟩ v) := h.setCell (p := ⟨k, j, none⟩) hk v
def resOut : Option ResF → Value
 | none => .tuple #[resV ResF.zero, .bool false]
 | some r => .tuple #[resV r, .bool true]
theorem ev_res {w : World} {b off k : Nat} {e : EvD} (h : ∀ j v, e.cells[j]? = some v → w.cell? ⟨b, off + k * 11 + j, none⟩ = some v) :
  w.cell? ⟨b, off + k * 11 + 3, none⟩ = some (.int .i64 e.res.err) ∧ w.cell? ⟨b, off + k * 11 + 4, none⟩ = some (.bool e.res.found) ∧ w.cell? ⟨b, off + k * 11 + 5, none⟩ = some (.int .u64 e.res.value) ∧ w.cell? ⟨b, off + k * 11 + 6, none⟩ = some (.string e.res.key) ∧
  w.cell? ⟨b, off + k * 11 + 7, none⟩ = some (.int .i64 e.res.count) ∧ w.cell? ⟨b, off + k * 11 + 8, none⟩ = some (.int .i64 e.res.ref) ∧ w.cell? ⟨b, off + k * 11 + 9, none⟩ = some (.int .i64 e.res.root) ∧ w.cell? ⟨b, off + k * 11 + 10, none⟩ = some (.bool e.res.ro) :=
 ⟨h 3 _ rfl, h 4 _ rfl, h 5 _ rfl, h 6 _ rfl, h 7 _ rfl, h 8 _ rfl, h 9 _ rfl, h 10 _ rfl⟩
set_option maxRecDepth 100000 in
set_option maxHeartbeats 1000000 in
theorem rresult_any (w : World) (A : Option Addr) (c : Nat) (l : List EvD) (hl : l.length ≤ 1048576) (h : EvsAt w A l) (a0 a1 : Int) :
  Calls Tryz.prog 32 #[.slice A l.length c, .agg #[.int .i64 a0, .int .i64 a1]] w fun e w' => e = .returned (resOut (resultP l (a0, a1))) ∧ Below w.heap.size w w' := by
 have H := Lib.hid h
 clear h
 go_enter Tryz.func32, Tryz.ntmps32
 go_upto_region 1 with fail
 obtain ⟨W0, hW0⟩ : ∃ W0, W0 = (w.alloc (.cells #[.int .i64 a0, .int .i64 a1] 44)).alloc (.cells #[.int .i64 0, .bool false, .int .u64 0, .string ⟨#[]⟩, .int .i64 0, .int .i64 0, .int .i64 0, .bool false] 56) := ⟨_, rfl⟩
 have BX : Hid (Below w.heap.size w W0) := by rw [hW0]; exact balZ (balZ (Below.refl _ _) _) _
 have KA : Hid (W0.heap[w.heap.size]? = some (opBox (a0, a1)) ∧ W0.heap[w.heap.size + 1]? = some (.cells #[.int .i64 0, .bool false, .int .u64 0, .string ⟨#[]⟩, .int .i64 0, .int .i64 0, .int .i64 0, .bool false] 56 (0, 0))) := by
  rw [hW0]
  have h1 := (heap_alloc (w.alloc (.cells #[.int .i64 a0, .int .i64 a1] 44)) (.cells #[.int .i64 0, .bool false, .int .u64 0, .string ⟨#[]⟩, .int .i64 0, .int .i64 0, .int .i64 0, .bool false] 56)).1
  have z : (w.alloc (.cells #[.int .i64 a0, .int .i64 a1] 44)).heap.size = w.heap.size + 1 := by simp
  rw [z] at h1
  exact ⟨(Below.heap_alloc _ _ _ (by simp)).trans (heap_alloc w _).1, h1⟩
 rw [← hW0]
 clear hW0
 obtain ⟨y0, y1⟩ := opBox_cells KA.out.1
 go_wp2_with (go_at_call 50; refine stopAt ?_)
 unfold StopAt
 refine (when_any W0 A c l hl (H.out.below BX.out) a0 a1 true).mono ?_
 rintro e w1 ⟨rfl, hb1⟩
 have BW := Lib.hid (BX.out.trans (hb1.mono BX.out.size))
 have hbox := (hb1.block _ (Array.getElem?_eq_some_iff.1 KA.out.2).1).trans KA.out.2
 obtain ⟨x0, x1, x2, x3, x4, x5, x6, x7⟩ := res_cells hbox
 obtain ⟨f0, f1, f2, f3, f4, f5, f6, f7⟩ := res_free hbox
 clear hb1 hbox y0 y1
 rcases when_spec l (a0, a1) true with ⟨hw, _⟩ | ⟨i, e, hi, he, hw, _⟩
 ·have R := Lib.hid (result_none.2 hw)
  have HW := Lib.hid hw
  rw [HW.out]
  clear hw
  go_wp2_with fail
  refine bodyPost_ret (v := .tuple #[resV ResF.zero, .bool false]) (by simp [results, Tryz.results32, go_sem, resV, ResF.zero, x0, x1, x2, x3, x4, x5, x6, x7]) rfl ⟨?_, ?_⟩
  ·rw [R.out]; rfl
  ·repeat (refine below_set ?_ (by omega))
   exact BW.out
 ·have R : Hid (resultP l (a0, a1) = some e.res) := by
   unfold resultP
   rw [hw, if_neg (by omega), Int.toNat_natCast, hi]; rfl
  have hlt := (List.getElem?_eq_some_iff.1 hi).1
  obtain ⟨b, off, rfl, hb, hc⟩ := (H.out.below BW.out) (by omega)
  obtain ⟨r0, r1, r2, r3, r4, r5, r6, r7⟩ := ev_res (hc i e hi)
  have hi0 : (0 : Int) ≤ i := by omega
  have hi1 : (i : Int) < l.length := by omega
  have HW := Lib.hid hw
  rw [HW.out]
  clear hw hi he hc
  go_wp2_with fail
  refine bodyPost_ret (v := .tuple #[resV e.res, .bool true]) (by simp [results, Tryz.results32, go_sem, resV, x0, x1, x2, x3, x4, x5, x6, x7]) rfl ⟨?_, ?_⟩
  ·rw [R.out]; rfl
  ·repeat (refine below_set ?_ (by omega))
   exact BW.out
def opC2 (a : OpP) : List Value := [.int .i64 a.1, .int .i64 a.2]
theorem row_keep {w w' : World} {B size n : Nat} {e : TypeId} {v : Value} {xs : List Value} (h : w.ownsRow B e size v n xs) (hk : ∀ g, v.ownBlock = some g → w'.heap[g]? = w.heap[g]?) : w'.ownsRow B e size v n xs := by
 refine ⟨h.1, ?_⟩
 rcases h.2 with h0 | ⟨g, cap, cur, hv, hb, hg, r⟩
 ·exact Or.inl h0
 ·refine Or.inr ⟨g, cap, cur, hv, hb, ?_, r⟩
  rw [hk g (by rw [hv]; rfl)]; exact hg
theorem opC2_one (l : List OpP) : ∀ u ∈ l.flatMap opC2, u.oneCell' = true := by
 intro u hu
 obtain ⟨x, _, hx⟩ := List.mem_flatMap.1 hu
 simp only [opC2, List.mem_cons, List.not_mem_nil, or_false] at hx
 rcases hx with rfl | rfl <;> rfl
theorem opC2_at (l : List OpP) (j : Nat) (x : OpP) (hx : l[j]? = some x) : (l.flatMap opC2)[j * 2]? = some (.int .i64 x.1) ∧ (l.flatMap opC2)[j * 2 + 1]? = some (.int .i64 x.2) := by
 induction l generalizing j with
 | nil => simp at hx
 | cons y r ih =>
  cases j with
  | zero =>
   simp only [List.getElem?_cons_zero, Option.some.injEq] at hx
   subst hx
   simp [opC2]
  | succ j =>
   have := ih j (by simpa using hx)
   rw [List.flatMap_cons]
   have e : (opC2 y).length = 2 := rfl
   rw [List.getElem?_append_right (by rw [e]; omega), List.getElem?_append_right (by rw [e]; omega), e, show (j + 1) * 2 - 2 = j * 2 by omega, show (j + 1) * 2 + 1 - 2 = j * 2 + 1 by omega]
   exact this
theorem opC2_box {W : World} {b : Nat} {a : OpP} (h : W.heap[b]? = some (opBox a)) : ∀ j u, (opC2 a)[j]? = some u → W.cell? ((⟨b, 0, none⟩ : Addr).add j) = some u := by
 intro j u hu
 obtain ⟨c0, c1⟩ := opBox_cells h
 match j, hu with
 | 0, hu => simp [opC2] at hu; subst hu; exact c0
 | 1, hu => simp [opC2] at hu; subst hu; exact c1
 | j + 2, hu => simp [opC2] at hu
theorem ordAt_of_row {w : World} {B : Nat} {A : Option Addr} {n c : Nat} {l : List OpP} (h : w.ownsRow B 44 2 (.slice A n c) n (l.flatMap opC2)) (hn : n = l.length) : OrdAt w A l := fun h0 => by
 obtain ⟨g, cap, hv⟩ := row_some h (by omega)
 simp only [Value.slice.injEq, true_and] at hv
 obtain ⟨rfl, rfl⟩ := hv
 refine ⟨g, 0, rfl, row_lt h rfl, fun j x hx => ?_⟩
 have hp := opC2_at l j x hx
 have c1 := h.cells (g := g) rfl (j * 2) _ hp.1
 have c2 := h.cells (g := g) rfl (j * 2 + 1) _ hp.2
 rw [raddr] at c1 c2
 simp only [Nat.zero_add]
 exact ⟨c1, c2⟩
theorem opInfo : (Tryz.prog.info? 44).map (fun i => (i.zero, i.size, i.bytes)) = some (some (.agg #[.int .i64 0, .int .i64 0]), 2, 16) := by kernel_rfl
def invF (l : List EvD) (i : Nat) : Option OpP := match l[i]? with
 | some e => if e.ret = false ∧ whenP l e.op false = i then some e.op else none
 | none => none
def invN (l : List EvD) (n : Nat) : List OpP := (List.range n).filterMap (invF l)
theorem inv_all (l : List EvD) : invN l l.length = invokedP l := rfl
theorem invN_succ (l : List EvD) (n : Nat) : invN l (n + 1) = invN l n ++ (invF l n).toList := by
 unfold invN
 rw [List.range_succ, List.filterMap_append]
 cases h : invF l n <;> simp [h]
theorem invN_len (l : List EvD) (n : Nat) : (invN l n).length ≤ n := by
 unfold invN
 refine Nat.le_trans (List.length_filterMap_le _ _) ?_
 simp
def InvRel (w : World) (l : List EvD) (v i : Value) (wr : World) : Prop :=
 ∃ j : Nat, j ≤ l.length ∧ i = .int .i64 j ∧ wr.ownsRow w.heap.size 44 2 v (invN l j).length ((invN l j).flatMap opC2) ∧ Below w.heap.size w wr
def OrdPost (w : World) (l : List OpP) (e : Ending) (w' : World) : Prop := ∃ (A : Option Addr) (c : Nat), e = .returned (.slice A l.length c) ∧ OrdAt w' A l ∧ Below w.heap.size w w'
set_option maxRecDepth 100000 in
set_option maxHeartbeats 2000000 in
theorem rinvoked_any (w : World) (A : Option Addr) (c : Nat) (l : List EvD) (hl : l.length ≤ 1048576) (h : EvsAt w A l) :
  Calls Tryz.prog 35 #[.slice A l.length c] w (OrdPost w (invokedP l)) := by
 have H := Lib.hid h
 clear h
 go_enter Tryz.func35, Tryz.ntmps35
 go_wp2_with fail
 go_loopw [3, 4] (fun v i wr => InvRel w l v i wr) (fun _ i _ => l.length - (intOf i).toNat)
 case atStart => exact ⟨0, by omega, rfl, World.ownsRow_nil _ _ _ _, Below.refl _ _⟩
 case round =>
  obtain ⟨j, hj, rfl, hown, hbw⟩ := hrel
  have HO := Lib.hid hown
  have HB := Lib.hid hbw
  have hsz : w.heap.size ≤ wr.heap.size := hbw.size
  have hln := invN_len l j
  clear hown hbw
  by_cases hlt : j < l.length
  ·obtain ⟨e, hx⟩ : ∃ e, l[j]? = some e := ⟨_, List.getElem?_eq_getElem hlt⟩
   obtain ⟨b, off, rfl, hb, hc⟩ := (H.out.below HB.out) (by omega)
   obtain ⟨c0, c1, c2⟩ := ev_cells (hc j e hx)
   have hj0 : (0 : Int) ≤ j := by omega
   have hj1 : (j : Int) < l.length := by omega
   have NX := Lib.hid (invN_succ l j)
   have IF := Lib.hid (show invF l j = if e.ret = false ∧ whenP l e.op false = j then some e.op else none by unfold invF; rw [hx])
   have HX := Lib.hid hx
   clear hx hc
   obtain ⟨th, ix, rt, rs⟩ := e
   simp only at c0 c1 c2
   go_upto_region 5 with fail
   have BR : Hid (Below wr.heap.size wr wr) := Below.refl _ _
   have BD : Hid (Below wr.heap.size wr wr.drew) := (Below.refl _ _).drew
   have KX : Hid (∀ W, Below wr.heap.size wr W → (W.cell? ⟨b, off + j * 11, none⟩ = some (.int .i64 th) ∧ W.cell? ⟨b, off + j * 11 + 1, none⟩ = some (.int .i64 ix))) := fun W hW => ⟨(hW.cell (p := ⟨b, _, none⟩) hb).trans c0, (hW.cell (p := ⟨b, _, none⟩) hb).trans c1⟩
   go_region_held3 (fun W => (W.cell? ⟨b, off + j * 11, none⟩ = some (.int .i64 th) ∧ W.cell? ⟨b, off + j * 11 + 1, none⟩ = some (.int .i64 ix))) ((refine KX.out _ ?_; repeat' (first | (with_reducible exact BR.out) | (with_reducible exact BD.out) | (with_reducible refine Below.drew ?_) | (with_reducible refine balZ ?_ _)))) (fail)
   obtain ⟨W1, hW1⟩ : ∃ W1, W1 = (wr.alloc (.cells #[.int .i64 th, .int .i64 ix] 44)).drew := ⟨_, rfl⟩
   have B1 : Hid (Below wr.heap.size wr W1) := by rw [hW1]; exact (balZ (Below.refl _ _) _).drew
   have C1 : Hid (W1.heap[wr.heap.size]? = some (opBox (th, ix))) := by rw [hW1]; exact (heap_alloc wr _).1
   rw [← hW1]
   have y2 := (B1.out.cell (p := ⟨b, off + j * 11 + 2, none⟩) hb).trans c2
   obtain ⟨x0, x1⟩ := opBox_cells C1.out
   have BW1 := Lib.hid (HB.out.trans (B1.out.mono HB.out.size))
   clear c0 c1 c2 hW1
   cases rt with
   | true =>
    have RR : Hid (InvRel w l u3 (.int .i64 ((j : Int) + 1)) W1) := by
     refine ⟨j + 1, by omega, by go_num, ?_, BW1.out⟩
     rw [NX.out, IF.out, if_neg (by simp)]
     simp only [Option.toList_none, List.append_nil]
     exact row_keep HO.out (fun g hg => B1.out.block g (row_lt HO.out hg))
    go_wp2_with fail
    go_roundw
    case rel => exact RR.out
    case measure => simp [intOf]; omega
   | false =>
    go_wp2_with (go_at_call 50; refine stopAt ?_)
    unfold StopAt
    refine (when_any W1 _ c l hl (H.out.below BW1.out) th ix false).mono ?_
    rintro e w2 ⟨rfl, hb2⟩
    have B2 := Lib.hid (B1.out.trans (hb2.mono B1.out.size))
    have C2 := Lib.hid (opBox_kept C1.out hb2)
    have BW2 := Lib.hid (HB.out.trans (B2.out.mono HB.out.size))
    have lo := when_lo l (th, ix) false
    have hi := when_hi l (th, ix) false
    have IG := Lib.hid IF.out
    generalize hv : whenP l (th, ix) false = v at *
    have HV := Lib.hid hv
    clear hb2 hv y2 x0 x1
    obtain ⟨x0, x1⟩ := opBox_cells C2.out
    by_cases hvj : v = j
    ·have IFJ := Lib.hid (show invF l j = some (th, ix) by
      unfold invF
      rw [HX.out]
      exact if_pos ⟨rfl, HV.out.trans hvj⟩)
     have HO2 := Lib.hid (row_keep HO.out (fun g hg => B2.out.block g (row_lt HO.out hg)))
     subst hvj
     go_wp2_with (at_builtin; refine stopAt ?_)
     unfold StopAt
     refine wpList_app 42 44 Tryz.underlying42 _ 2 16 opInfo rfl (by decide) rfl _ _ rfl w.heap.size _ _ _ _ rfl (HO2.out.alloc _) ⟨w2.heap.size, 0, none⟩ 1 1 (opC2 (th, ix)) rfl rfl ?_ ?_ (by have := BW2.out.size; simp; omega) (by unfold maxLen; omega) (by omega) ?_
     ·exact opC2_box (heap_alloc w2 _).1
     ·have := opC2_one [(th, ix)]
      simpa using this
     intro a3 c3 w3 ho3 hg3
     have O3 := Lib.hid ho3
     have G3 := Lib.hid hg3
     have RR : Hid (InvRel w l (.slice a3 ((invN l j).length + 1) c3) (.int .i64 ((j : Int) + 1)) w3) := by
      refine ⟨j + 1, by omega, by go_num, ?_, BW2.out.trans (grown_below G3.out BW2.out.size (fun k hk => (row_kind HO2.out hk).1))⟩
      rw [NX.out, IFJ.out, List.length_append, List.flatMap_append]
      have := O3.out
      simpa using this
     clear ho3 hg3
     go_wp2_with fail
     go_roundw
     case rel => exact RR.out
     case measure => simp [intOf]; omega
    ·have IFJ := Lib.hid (show invF l j = none by
      unfold invF
      rw [HX.out]
      exact if_neg fun h => hvj (HV.out.symm.trans h.2))
     have RR : Hid (InvRel w l u3 (.int .i64 ((j : Int) + 1)) w2) := by
      refine ⟨j + 1, by omega, by go_num, ?_, BW2.out⟩
      rw [NX.out, IFJ.out]
      simp only [Option.toList_none, List.append_nil]
      exact row_keep HO.out (fun g hg => B2.out.block g (row_lt HO.out hg))
     go_wp2_with fail
     go_roundw
     case rel => exact RR.out
     case measure => simp [intOf]; omega
  ·have hje : j = l.length := by omega
   have TT := Lib.hid hje
   obtain ⟨A2, c2, hv⟩ := row_form HO.out
   clear hje
   go_wp2_with fail
   go_ret
   subst hv
   have e : invN l j = invokedP l := by rw [TT.out, inv_all]
   rw [e] at HO
   exact ⟨A2, c2, by show Ending.returned (Value.slice A2 _ c2) = _; rw [e], ordAt_of_row HO.out rfl, HB.out⟩
open Classical in
noncomputable def properB (ops : List Nat) (l : List EvD) : Bool := decide (ProperP ops l)
open Classical in
theorem cells_free {W : World} {k : Nat} {cs : Array Value} {T : TypeId} (h : W.heap[k]? = some (.cells cs T (0, 0))) : ∀ j, W.frozen? ⟨k, j, none⟩ = false := fun j => by simp [World.frozen?, h]
theorem kept_block {W0 W : World} {b : Nat} {o : Obj} (h : W0.heap[b]? = some o) (hb : Below W0.heap.size W0 W) : W.heap[b]? = some o := (hb.block b (Array.getElem?_eq_some_iff.1 h).1).trans h
theorem properB_bad {ops : List Nat} {l : List EvD} (h : ¬ ProperP ops l) : properB ops l = false := by unfold properB; rw [decide_eq_false_iff_not]; exact h
open Classical in
theorem properB_ok {ops : List Nat} {l : List EvD} (h : ProperP ops l) : properB ops l = true := by unfold properB; rw [decide_eq_true_eq]; exact h
def HpRel (w : World) (ops : List Nat) (l : List EvD) (T : TypeId) (i : Value) (wr : World) : Prop :=
 ∃ j : Nat, j ≤ l.length ∧ i = .int .i64 j ∧ (∀ k e, k < j → l[k]? = some e → EvOk ops l k e) ∧ wr.heap[w.heap.size]? = some (.cells (intCells (cnts 8 l j)).toArray T (0, 0)) ∧ Below w.heap.size w wr
theorem kept_block' {W0 W : World} {b : Nat} {o : Obj} (h : W0.heap[b]? = some o) (hb : Below W0.heap.size W0 W) : W.heap[b]? = some o := (hb.block b (Array.getElem?_eq_some_iff.1 h).1).trans h
theorem ev_box {w : World} {th ix : Int} {rt : Bool} {rs : ResF} {T : TypeId} {b : Nat} (h : w.heap[b]? = some (.cells #[.int .i64 th, .int .i64 ix, .bool rt, .int .i64 rs.err, .bool rs.found, .int .u64 rs.value, .string rs.key, .int .i64 rs.count, .int .i64 rs.ref, .int .i64 rs.root, .bool rs.ro] T (0, 0))) :
  w.cell? ⟨b, 0, none⟩ = some (.int .i64 th) ∧ w.cell? ⟨b, 1, none⟩ = some (.int .i64 ix) ∧ w.cell? ⟨b, 2, none⟩ = some (.bool rt) ∧ w.cell? ⟨b, 3, none⟩ = some (.int .i64 rs.err) ∧ w.cell? ⟨b, 4, none⟩ = some (.bool rs.found) ∧ w.cell? ⟨b, 5, none⟩ = some (.int .u64 rs.value) ∧
  w.cell? ⟨b, 6, none⟩ = some (.string rs.key) ∧ w.cell? ⟨b, 7, none⟩ = some (.int .i64 rs.count) ∧ w.cell? ⟨b, 8, none⟩ = some (.int .i64 rs.ref) ∧ w.cell? ⟨b, 9, none⟩ = some (.int .i64 rs.root) ∧ w.cell? ⟨b, 10, none⟩ = some (.bool rs.ro) :=
 ⟨blk_cell h 0, blk_cell h 1, blk_cell h 2, blk_cell h 3, blk_cell h 4, blk_cell h 5, blk_cell h 6, blk_cell h 7, blk_cell h 8, blk_cell h 9, blk_cell h 10⟩
set_option maxRecDepth 100000 in
set_option maxHeartbeats 4000000 in
theorem hproper_any (w : World) (A B : Option Addr) (c d : Nat) (ts : List (List OpD)) (l : List EvD) (hA : ThrAt w A ts) (hB : EvsAt w B l) (ft : ThrFit ts) (fe : EvsFit l) (h8 : ts.length ≤ 8) :
  Calls Tryz.prog 30 #[.slice A ts.length c, .slice B l.length d] w fun e w' => e = .returned (.bool (properB (lens ts) l)) ∧ Below w.heap.size w w' := by
 have HA := Lib.hid hA
 have HB := Lib.hid hB
 have FE := Lib.hid fe
 have HE := Lib.hid ft.each
 have hl2 := fe.len
 clear hA hB ft fe
 go_enter Tryz.func30, Tryz.ntmps30
 go_wp2_with fail
 have C0 : Hid ((w.alloc (.cells #[.int .i64 0, .int .i64 0, .int .i64 0, .int .i64 0, .int .i64 0, .int .i64 0, .int .i64 0, .int .i64 0] 106)).heap[w.heap.size]? = some (.cells (intCells (cnts 8 l 0)).toArray 106 (0, 0))) := by rw [cnts_zero]; exact (heap_alloc w _).1
 have B0 := Lib.hid (balZ (Below.refl w.heap.size w) (.cells #[.int .i64 0, .int .i64 0, .int .i64 0, .int .i64 0, .int .i64 0, .int .i64 0, .int .i64 0, .int .i64 0] 106))
 go_loopw [11] (fun i wr => HpRel w (lens ts) l 106 i wr) (fun i _ => l.length - (intOf i).toNat)
 case atStart => exact ⟨0, by omega, rfl, fun k e hk => by omega, C0.out, B0.out⟩
 case round =>
  obtain ⟨j, hj, rfl, hok, hcs, hbr⟩ := hrel
  have OK := Lib.hid hok
  have CS := Lib.hid hcs
  have BR := Lib.hid hbr
  clear hok hcs hbr
  by_cases hlt : j < l.length
  ·obtain ⟨e, hx⟩ : ∃ e, l[j]? = some e := ⟨_, List.getElem?_eq_getElem hlt⟩
   obtain ⟨b, off, rfl, hb, hc⟩ := (HB.out.below BR.out) (by omega)
   have hmem := List.mem_of_getElem? hx
   have ft := FE.out.thread e hmem
   have fi := FE.out.index e hmem
   obtain ⟨e0, e1, e2⟩ := ev_cells (hc j e hx)
   obtain ⟨g0, g1, g2, g3, g4, g5, g6, g7⟩ := ev_res (hc j e hx)
   have hj0 : (0 : Int) ≤ j := by omega
   have hj1 : (j : Int) < l.length := by omega
   have HX := Lib.hid hx
   clear hx hc hmem
   unfold I64 at ft fi
   obtain ⟨th, ix, rt, rs⟩ := e
   simp only at e0 e1 e2 g0 g1 g2 g3 g4 g5 g6 g7 ft fi
   go_upto_region 5 with fail
   obtain ⟨W1, hW1⟩ : ∃ W1, W1 = wr.alloc (.cells #[.int .i64 th, .int .i64 ix, .bool rt, .int .i64 rs.err, .bool rs.found, .int .u64 rs.value, .string rs.key, .int .i64 rs.count, .int .i64 rs.ref, .int .i64 rs.root, .bool rs.ro] 72) := ⟨_, rfl⟩
   have B1 : Hid (Below wr.heap.size wr W1) := by rw [hW1]; exact balZ (Below.refl _ _) _
   have KV : Hid (W1.heap[wr.heap.size]? = some (.cells #[.int .i64 th, .int .i64 ix, .bool rt, .int .i64 rs.err, .bool rs.found, .int .u64 rs.value, .string rs.key, .int .i64 rs.count, .int .i64 rs.ref, .int .i64 rs.root, .bool rs.ro] 72 (0, 0))) := by rw [hW1]; exact (heap_alloc wr _).1
   have BW1 := Lib.hid (BR.out.trans (B1.out.mono BR.out.size))
   have CS1 := Lib.hid (kept_block' CS.out B1.out)
   rw [← hW1]
   clear hW1 e0 e1 e2 g0 g1 g2 g3 g4 g5 g6 g7
   obtain ⟨y0, y1, _⟩ := ev_box KV.out
   by_cases t0 : th < 0
   ·have R : Hid (properB (lens ts) l = false) := properB_bad fun hp => by have := (hp j _ HX.out).t0; simp only at this; omega
    have d0 : decide (th < 0) = true := by simpa using t0
    go_quiet (fail)
    go_wp2_with fail
    go_ret
    exact ⟨ret_bool R.out.symm, below_drewN BW1.out _⟩
   have d0 : decide (th < 0) = false := by simpa using t0
   by_cases t1 : ts.length ≤ th
   ·have R : Hid (properB (lens ts) l = false) := properB_bad fun hp => by have := (hp j _ HX.out).t1; rw [lens_len] at this; simp only at this; omega
    have d1 : decide (ts.length ≤ th) = true := by simpa using t1
    go_quiet (fail)
    go_wp2_with fail
    go_ret
    exact ⟨ret_bool R.out.symm, below_drewN BW1.out _⟩
   have d1 : decide (ts.length ≤ th) = false := by simpa using t1
   obtain ⟨t, rfl⟩ : ∃ t : Nat, th = t := ⟨th.toNat, by omega⟩
   have tl : t < ts.length := by omega
   have d1' : decide (ts.length ≤ t) = false := by simpa using tl
   obtain ⟨tt, htt⟩ : ∃ tt, ts[t]? = some tt := ⟨_, List.getElem?_eq_getElem tl⟩
   have hcn := cnts_get (n := 8) (l := l) (i := j) (t := t) (by omega)
   have hcj := cntT_le l j t
   have C1 := Lib.hid (And.intro hcn htt)
   generalize hcg : cntT l j (t : Int) = c at *
   have CG := Lib.hid hcg
   clear hcg
   have LM := Lib.hid (fun (hp : ProperP (lens ts) l) => (hp j _ HX.out).lim tt.length (by simpa using lens_get htt))
   by_cases x0 : ix < 0
   ·have R : Hid (properB (lens ts) l = false) := properB_bad fun hp => by have := (hp j _ HX.out).idx; simp only at this; omega
    have d2 : decide (ix < 0) = true := by simpa using x0
    clear hcn htt
    go_quiet (fail)
    go_wp2_with fail
    go_ret
    exact ⟨ret_bool R.out.symm, below_drewN BW1.out _⟩
   have d2 : decide (ix < 0) = false := by simpa using x0
   obtain ⟨a, offA, rfl, ha, hac⟩ := HA.out (by omega)
   obtain ⟨u, cu, k1, _⟩ := hac t tt htt
   have z1 := (BW1.out.cell (p := ⟨a, _, none⟩) ha).trans k1
   have tt1 := HE.out tt (List.mem_of_getElem? htt)
   clear hac k1 hcn htt
   by_cases x1 : tt.length ≤ ix
   ·have R : Hid (properB (lens ts) l = false) := properB_bad fun hp => by
     have h1 := (hp j _ HX.out).idx
     have h2 := LM.out hp
     simp only at h1 h2
     omega
    have d3 : decide (tt.length ≤ ix) = true := by simpa using x1
    go_quiet (fail)
    go_wp2_with fail
    go_ret
    exact ⟨ret_bool R.out.symm, below_drewN BW1.out _⟩
   have d3 : decide (tt.length ≤ ix) = false := by simpa using x1
   go_quiet (fail)
   have B2 : Hid (Below W1.heap.size W1 (W1.drewN nq)) := below_drewN (Below.refl _ _) _
   have CS2 := Lib.hid (kept_block' CS1.out B2.out)
   have KV2 := Lib.hid (kept_block' KV.out B2.out)
   have BW2 := Lib.hid (BW1.out.trans (B2.out.mono BW1.out.size))
   generalize W1.drewN nq = W2 at *
   clear y0 y1 z1 B2 KV CS1 d0 d1 d1' d2 d3
   obtain ⟨y0, y1, y2, y3, y4, y5, y6, y7, y8, y9, y10⟩ := ev_box KV2.out
   have hcc := int_cell CS2.out C1.out.1
   have fz := cells_free CS2.out
   have t8 : (t : Int) < 8 := by omega
   have tz : (0 : Int) ≤ t := by omega
   have c0' : (0 : Int) ≤ (c : Int) / 2 := by omega
   by_cases h1 : ix = (c : Int) / 2
   case neg =>
    have R : Hid (properB (lens ts) l = false) := properB_bad fun hp => by have := (hp j _ HX.out).idx; rw [CG.out] at this; simp only at this; omega
    have h1b : (ix == (c : Int) / 2) = false := by simpa using h1
    clear y3 y4 y5 y6 y7 y8 y9 y10
    go_wp2_with fail
    go_ret
    exact ⟨ret_bool R.out.symm, BW2.out⟩
   subst h1
   have GO : Hid (EvOk (lens ts) l j ⟨t, (c : Int) / 2, rt, rs⟩ → HpRel w (lens ts) l 106 (.int .i64 ((j : Int) + 1)) (W2.setCell ⟨w.heap.size, t, none⟩ (.int .i64 ((c : Int) + 1)))) := fun hok => by
    refine ⟨j + 1, by omega, by go_num, fun k y hk hy => ?_, ?_, BW2.out.setCell (p := ⟨w.heap.size, t, none⟩) (Nat.le_refl _) _⟩
    ·by_cases hkj : k = j
     ·subst hkj
      rw [HX.out] at hy
      obtain rfl := Option.some.inj hy
      exact hok
     ·exact OK.out k y (by omega) hy
    ·rw [cnts_succ HX.out rfl (by omega), CG.out]
     exact int_store CS2.out t (c + 1)
   have G1 : Hid (rt = ((c : Int) % 2 == 1) → (rt = false → rs = ResF.zero) → EvOk (lens ts) l j ⟨t, (c : Int) / 2, rt, rs⟩) := fun hr hz => by
    refine ⟨by simp, by rw [lens_len]; show (t : Int) < _; omega, ?_, fun n hn => ?_, ?_, hz⟩
    ·show (c : Int) / 2 = _
     rw [CG.out]; omega
    ·rw [show (⟨t, (c : Int) / 2, rt, rs⟩ : EvD).thread.toNat = t by simp, lens_get C1.out.2] at hn
     obtain rfl := Option.some.inj hn
     rw [CG.out]; omega
    ·show rt = _
     rw [hr, CG.out, Bool.eq_iff_iff]
     simp only [beq_iff_eq]
     omega
   by_cases hpar : (c : Int) % 2 = 1
   ·have hpb : ((c : Int) % 2 == 1) = true := by simpa using hpar
    cases rt with
    | false =>
     have R : Hid (properB (lens ts) l = false) := properB_bad fun hp => by
      have := (hp j _ HX.out).ret
      rw [CG.out] at this
      have h3 : (c % 2 == 1) = true := by simp; omega
      rw [h3] at this
      simp at this
     clear y3 y4 y5 y6 y7 y8 y9 y10 fz
     go_wp2_with fail
     go_ret
     exact ⟨ret_bool R.out.symm, BW2.out⟩
    | true =>
     have G2 := Lib.hid (GO.out (G1.out hpb.symm (by simp)))
     clear y3 y4 y5 y6 y7 y8 y9 y10
     go_wp2_with fail
     go_roundw
     case rel => exact G2.out
     case measure => simp [intOf]; omega
   ·have hpb : ((c : Int) % 2 == 1) = false := by simpa using hpar
    cases rt with
    | true =>
     have R : Hid (properB (lens ts) l = false) := properB_bad fun hp => by
      have := (hp j _ HX.out).ret
      rw [CG.out] at this
      have h3 : (c % 2 == 1) = false := by simp; omega
      rw [h3] at this
      simp at this
     clear y3 y4 y5 y6 y7 y8 y9 y10 fz
     go_wp2_with fail
     go_ret
     exact ⟨ret_bool R.out.symm, BW2.out⟩
    | false =>
     by_cases hz : rs = ResF.zero
     ·have G2 := Lib.hid (GO.out (G1.out hpb.symm (fun _ => hz)))
      subst hz
      simp only [ResF.zero] at y3 y4 y5 y6 y7 y8 y9 y10
      go_wp2_with fail
      go_roundw
      case rel => exact G2.out
      case measure => simp [intOf]; omega
     ·have HZ := Lib.hid hz
      have R : Hid (properB (lens ts) l = false) := properB_bad fun hp => hz ((hp j _ HX.out).res rfl)
      clear hz fz
      go_wp2_with fail
      all_goals first
       | (exfalso; exact HZ.out (res_zero_of (by assumption) (by assumption) (by assumption) (by assumption) (by assumption) (by assumption) (by assumption) (by assumption)))
       | (go_ret; exact ⟨ret_bool R.out.symm, BW2.out⟩)
  ·have R : Hid (properB (lens ts) l = true) := properB_ok fun k e he => OK.out k e (by have := (List.getElem?_eq_some_iff.1 he).1; omega) he
   go_wp2_with fail
   go_ret
   exact ⟨ret_bool R.out.symm, BR.out⟩
theorem zero_bool (w : World) : (zeroValue 4).run Tryz.prog w = .ok (.bool false) w := by kernel_rfl
theorem make_map78 (w : World) : (Instr.makeMap 75 none).run Tryz.prog w = .ok (.map (some w.heap.size)) (w.alloc (.map #[] 0)) := rfl
def SetW (w : World) (m : Nat) (L : List OpP) : Prop := MapW w m opV Value.bool OpFit (L.map fun a => (a, true))
theorem alook_set (L : List OpP) (a : OpP) : alook (L.map fun x => (x, true)) a = if a ∈ L then some true else none := by
 induction L with
 | nil => rfl
 | cons x r ih =>
  simp only [List.map_cons, alook]
  by_cases h : x = a
  ·simp [h]
  ·have : ¬ a = x := fun e => h e.symm
   simp [h, this, ih]
theorem SetW.look {w : World} {m : Nat} {L : List OpP} (h : SetW w m L) (a : OpP) (ha : OpFit a) : (Instr.lookup 75 (.map (some m)) (.agg #[.int .i64 a.1, .int .i64 a.2]) false).run Tryz.prog w = .ok (.bool (decide (a ∈ L))) w := by
 have := MapW.lookup opKey Tryz.underlying75 (zero_bool w) h a ha false
 rw [alook_set] at this
 unfold opV at this
 rw [this]
 by_cases hm : a ∈ L <;> simp [hm, outOf]
theorem SetW.add {w : World} {m : Nat} {L : List OpP} (h : SetW w m L) (a : OpP) (ha : OpFit a) (hn : a ∉ L) : ∃ w', (Instr.mapUpdate 75 (.map (some m)) (.agg #[.int .i64 a.1, .int .i64 a.2]) (.bool true)).run Tryz.prog w = .ok () w' ∧ SetW w' m (L ++ [a]) ∧ Turned m w w' := by
 obtain ⟨o, h1, h2⟩ := MapW.update opKey Tryz.underlying75 h a ha true
 refine ⟨_, h1, ?_, Turned.mk' m o⟩
 unfold SetW
 have e : aset (L.map fun x => (x, true)) a true = (L ++ [a]).map fun x => (x, true) := by
  rw [aset_new (fun p hp => ?_)]
  ·simp
  ·obtain ⟨x, hx, rfl⟩ := List.mem_map.1 hp
   exact fun e => hn (e ▸ hx)
 rw [← e]
 exact h2
theorem SetW.keep {w w' : World} {m : Nat} {L : List OpP} (h : SetW w m L) (hb : Below w.heap.size w w') : SetW w' m L := MapW.of_block h (hb.block m (MapW.lt h))
theorem turned_belowZ {B : Nat} {a b c : World} {m : Nat} (h : Below B a b) (ht : Turned m b c) (hm : B ≤ m) : Below B a c :=
 ⟨ht.os.trans h.os, ht.tape.trans h.tape, ht.output.trans h.output, by rw [ht.size]; exact h.size, fun k hk => (ht.block k (by omega)).trans (h.block k hk)⟩
def OrdFit (order : List OpP) : Prop := ∀ a ∈ order, OpFit a
set_option maxRecDepth 100000 in
set_option maxHeartbeats 2000000 in
theorem hcheck_any (w : World) (A B : Option Addr) (c d : Nat) (ts : List (List OpD)) (l : List EvD) (hA : ThrAt w A ts) (hB : EvsAt w B l) (ft : ThrFit ts) (fe : EvsFit l) :
  Calls Tryz.prog 12 #[.slice A ts.length c, .slice B l.length d] w fun e w' => e = .returned (.int .i64 (checkP (lens ts) l)) ∧ Below w.heap.size w w' := by
 have HA := Lib.hid hA
 have HB := Lib.hid hB
 have FE := Lib.hid fe
 have FT := Lib.hid ft
 have hl1 := ft.len
 have HE := Lib.hid ft.each
 clear hA hB ft fe
 by_cases h8 : 8 < ts.length
 ·have R := Lib.hid (check_big (l := l) (ops := lens ts) (Or.inl (by rw [lens_len]; exact h8)))
  go_enter Tryz.func12, Tryz.ntmps12
  go_wp2_with fail
  go_ret
  exact ⟨ret_int R.out.symm, Below.refl _ _⟩
 go_enter Tryz.func12, Tryz.ntmps12
 go_wp2_with fail
 go_loop [12] (fun i => SmallTo ts i) (fun i => ts.length - (intOf i).toNat)
 case atStart => exact ⟨0, by omega, rfl, fun k x hk => by omega⟩
 case round =>
  obtain ⟨j, hj, rfl, hne⟩ := hrel
  have NE := Lib.hid hne
  clear hne
  by_cases hlt : j < ts.length
  ·obtain ⟨t, ht⟩ : ∃ t, ts[j]? = some t := ⟨_, List.getElem?_eq_getElem hlt⟩
   obtain ⟨b, off, rfl, hb, hc⟩ := HA.out (by omega)
   obtain ⟨u, cu, c0, _⟩ := hc j t ht
   have hj0 : (0 : Int) ≤ j := by omega
   have hj1 : (j : Int) < ts.length := by omega
   have htl := HE.out t (List.mem_of_getElem? ht)
   have HX := Lib.hid ht
   clear ht hc
   by_cases hn : 16 < t.length
   ·have R := Lib.hid (check_big (l := l) (big_of HX.out hn))
    go_wp2_with fail
    go_ret
    exact ⟨ret_int R.out.symm, Below.refl _ _⟩
   ·go_wp2_with fail
    go_round
    case rel =>
     refine ⟨j + 1, by omega, by go_num, fun k y hk hy => ?_⟩
     by_cases hkj : k = j
     ·subst hkj
      rw [HX.out] at hy
      obtain rfl := Option.some.inj hy
      omega
     ·exact NE.out k y (by omega) hy
    case measure => simp [intOf]; omega
  ·have SM := Lib.hid (small_of h8 fun k t hk ht => NE.out k t (by omega) ht)
   go_wp2_with (go_at_call 30; refine stopAt ?_)
   unfold StopAt
   refine (hproper_any w A B c d ts l HA.out HB.out FT.out FE.out (by omega)).mono ?_
   rintro e w1 ⟨rfl, hb1⟩
   have B1 := Lib.hid hb1
   clear hb1
   by_cases hp : ProperP (lens ts) l
   ·rw [properB_ok hp]
    have R := Lib.hid (check_ok SM.out hp)
    clear hp
    go_wp2_with fail
    go_ret
    exact ⟨ret_int R.out.symm, B1.out⟩
   ·rw [properB_bad hp]
    have R := Lib.hid (check_bad SM.out hp)
    clear hp
    go_wp2_with fail
    go_ret
    exact ⟨ret_int R.out.symm, B1.out⟩
theorem mem_invN {l : List EvD} {j : Nat} {a : OpP} : a ∈ invN l j ↔ ∃ k, k < j ∧ invF l k = some a := by
 unfold invN
 rw [List.mem_filterMap]
 exact ⟨fun ⟨k, hk, h⟩ => ⟨k, by simpa using hk, h⟩, fun ⟨k, hk, h⟩ => ⟨k, by simpa using hk, h⟩⟩
theorem invF_some {l : List EvD} {k : Nat} {a : OpP} (h : invF l k = some a) : ∃ e, l[k]? = some e ∧ e.ret = false ∧ e.op = a ∧ whenP l a false = k := by
 unfold invF at h
 split at h
 ·rename_i e he
  split at h
  ·rename_i hc
   obtain rfl := Option.some.inj h
   exact ⟨e, he, hc.1, rfl, hc.2⟩
  ·simp at h
 ·simp at h
theorem inv_seen {l : List EvD} {j : Nat} {e : EvD} (hj : l[j]? = some e) (hr : e.ret = false) : whenP l e.op false = j ↔ e.op ∉ invN l j := by
 have hself : e.is e.op false := by have := e.is_self; rwa [hr] at this
 rcases when_spec l e.op false with ⟨_, hn⟩ | ⟨i, f, hi, hf, hw, hm⟩
 ·exact absurd hself (hn j e hj)
 ·have hij : i ≤ j := Nat.le_of_not_lt fun h => hm j e h hj hself
  rw [hw]
  constructor
  ·intro h hmem
   have hij : i = j := by omega
   subst hij
   obtain ⟨k, hk, hx⟩ := mem_invN.1 hmem
   obtain ⟨x, hx1, hx2, hx3, _⟩ := invF_some hx
   exact hm k x hk hx1 ⟨congrArg Prod.fst hx3, congrArg Prod.snd hx3, hx2⟩
  ·intro h
   by_cases hlt : i < j
   ·exfalso
    refine h (mem_invN.2 ⟨i, hlt, ?_⟩)
    unfold invF
    rw [hi]
    simp only
    rw [if_pos ⟨hf.2.2, by rw [hf.is_op]; exact hw⟩, hf.is_op]
   ·omega
theorem hoper_any (w : World) (th ix : Int) (rt : Bool) (a : Int) (f : Bool) (v : Int) (k : ByteArray) (c r x : Int) (y : Bool) :
  Calls Tryz.prog 31 #[.agg #[.int .i64 th, .int .i64 ix, .bool rt, .int .i64 a, .bool f, .int .u64 v, .string k, .int .i64 c, .int .i64 r, .int .i64 x, .bool y]] w fun e w' => e = .returned (.agg #[.int .i64 th, .int .i64 ix]) ∧ Below w.heap.size w w' := by
 go_enter Tryz.func31, Tryz.ntmps31
 go_wp2_with fail
 refine bodyPost_ret (v := .agg #[.int .i64 th, .int .i64 ix]) (by simp [results, Tryz.results31, go_sem]) rfl ⟨rfl, ?_⟩
 first | exact balZ (balZ (Below.refl _ _) _) _ | (repeat (refine below_set ?_ (by simp))); exact balZ (balZ (Below.refl _ _) _) _
def HiRel (w : World) (l : List EvD) (v i : Value) (wr : World) : Prop :=
 ∃ j : Nat, j ≤ l.length ∧ i = .int .i64 j ∧ wr.ownsRow (w.heap.size + 1) 44 2 v (invN l j).length ((invN l j).flatMap opC2) ∧ SetW wr w.heap.size (invN l j) ∧ Below w.heap.size w wr
set_option maxRecDepth 100000 in
set_option maxHeartbeats 4000000 in
theorem hinvoked_any (w : World) (A : Option Addr) (c : Nat) (l : List EvD) (fe : EvsFit l) (h : EvsAt w A l) :
  Calls Tryz.prog 13 #[.slice A l.length c] w (OrdPost w (invokedP l)) := by
 have H := Lib.hid h
 have FE := Lib.hid fe
 have hl := fe.len
 clear h fe
 have hmm := make_map78
 have M0 : Hid (SetW (w.alloc (.map #[] 0)) w.heap.size []) := MapW.made w opV Value.bool OpFit
 have B0 := Lib.hid (balZ (Below.refl w.heap.size w) (.map #[] 0))
 go_enter Tryz.func13, Tryz.ntmps13
 go_wp2_with fail
 clear hmm
 go_loopw [4, 11] (fun v i wr => HiRel w l v i wr) (fun _ i _ => l.length - (intOf i).toNat)
 case atStart => exact ⟨0, by omega, rfl, World.ownsRow_nil _ _ _ _, M0.out, B0.out⟩
 case round =>
  obtain ⟨j, hj, rfl, hown, hset, hbw⟩ := hrel
  have HO := Lib.hid hown
  have ST := Lib.hid hset
  have HB := Lib.hid hbw
  have hsz : w.heap.size < wr.heap.size := MapW.lt hset
  have hln := invN_len l j
  clear hown hset hbw
  by_cases hlt : j < l.length
  ·obtain ⟨e, hx⟩ : ∃ e, l[j]? = some e := ⟨_, List.getElem?_eq_getElem hlt⟩
   obtain ⟨b, off, rfl, hb, hc⟩ := (H.out.below HB.out) (by omega)
   have hmem := List.mem_of_getElem? hx
   have FO : Hid (OpFit e.op) := ⟨FE.out.thread e hmem, FE.out.index e hmem⟩
   obtain ⟨e0, e1, e2⟩ := ev_cells (hc j e hx)
   obtain ⟨g0, g1, g2, g3, g4, g5, g6, g7⟩ := ev_res (hc j e hx)
   have hj0 : (0 : Int) ≤ j := by omega
   have hj1 : (j : Int) < l.length := by omega
   have NX := Lib.hid (invN_succ l j)
   have SE := Lib.hid (fun hr => inv_seen (l := l) (j := j) (e := e) hx hr)
   have IF := Lib.hid (show invF l j = if e.ret = false ∧ whenP l e.op false = j then some e.op else none by unfold invF; rw [hx])
   clear hx hc hmem
   obtain ⟨th, ix, rt, rs⟩ := e
   simp only at e0 e1 e2 g0 g1 g2 g3 g4 g5 g6 g7
   go_upto_region 6 with fail
   obtain ⟨W1, hW1⟩ : ∃ W1, W1 = wr.alloc (.cells #[.int .i64 th, .int .i64 ix, .bool rt, .int .i64 rs.err, .bool rs.found, .int .u64 rs.value, .string rs.key, .int .i64 rs.count, .int .i64 rs.ref, .int .i64 rs.root, .bool rs.ro] 72) := ⟨_, rfl⟩
   have B1 : Hid (Below wr.heap.size wr W1) := by rw [hW1]; exact balZ (Below.refl _ _) _
   have KV : Hid (W1.heap[wr.heap.size]? = some (.cells #[.int .i64 th, .int .i64 ix, .bool rt, .int .i64 rs.err, .bool rs.found, .int .u64 rs.value, .string rs.key, .int .i64 rs.count, .int .i64 rs.ref, .int .i64 rs.root, .bool rs.ro] 72 (0, 0))) := by rw [hW1]; exact (heap_alloc wr _).1
   rw [← hW1]
   clear hW1 e0 e1 e2 g0 g1 g2 g3 g4 g5 g6 g7
   obtain ⟨y0, y1, y2, y3, y4, y5, y6, y7, y8, y9, y10⟩ := ev_box KV.out
   go_wp2_with (first | (go_at_call 31; refine stopAt ?_))
   unfold StopAt
   refine (hoper_any W1 th ix rt rs.err rs.found rs.value rs.key rs.count rs.ref rs.root rs.ro).mono ?_
   rintro e w1 ⟨rfl, hb1⟩
   have B2 := Lib.hid (B1.out.trans (hb1.mono B1.out.size))
   have KV1 := Lib.hid (kept_block KV.out hb1)
   have hevl : wr.heap.size < w1.heap.size := (Array.getElem?_eq_some_iff.1 KV1.out).1
   clear hb1 y0 y1 y2 y3 y4 y5 y6 y7 y8 y9 y10
   go_upto_region 7 with fail
   obtain ⟨W2, hW2⟩ : ∃ W2, W2 = w1.alloc (.cells #[.int .i64 th, .int .i64 ix] 44) := ⟨_, rfl⟩
   have B3 : Hid (Below wr.heap.size wr W2) := by rw [hW2]; exact B2.out.alloc B2.out.size _
   have B3b : Hid (Below w1.heap.size w1 W2) := by rw [hW2]; exact balZ (Below.refl _ _) _
   have KA : Hid (W2.heap[w1.heap.size]? = some (opBox (th, ix))) := by rw [hW2]; exact (heap_alloc w1 _).1
   have KV2 := Lib.hid (kept_block KV1.out B3b.out)
   rw [← hW2]
   clear hW2
   have hbox : w1.heap.size < W2.heap.size := (Array.getElem?_eq_some_iff.1 KA.out).1
   have BW := Lib.hid (HB.out.trans (B3.out.mono HB.out.size))
   have ST2 := Lib.hid (ST.out.keep B3.out)
   have HO2 := Lib.hid (row_keep HO.out (fun g hg => B3.out.block g (row_lt HO.out hg)))
   have hrow := Lib.hid (fun g (hg : u4.ownBlock = some g) => row_lt HO.out hg)
   obtain ⟨x0, x1⟩ := opBox_cells KA.out
   simp only at x0 x1
   obtain ⟨_, _, y2, _⟩ := ev_box KV2.out
   generalize hbx : w1.heap.size = bx at *
   clear hbx
   cases rt with
   | true =>
    have RR : Hid (∀ W, Below W2.heap.size W2 W → HiRel w l u4 (.int .i64 ((j : Int) + 1)) W) := fun W hW => by
     refine ⟨j + 1, by omega, by go_num, ?_, ?_, BW.out.trans (hW.mono BW.out.size)⟩
     all_goals rw [NX.out, IF.out, if_neg (by simp)]; simp only [Option.toList_none, List.append_nil]
     ·exact row_keep HO2.out (fun g hg => hW.block g (row_lt HO2.out hg))
     ·exact ST2.out.keep hW
    have R0 := Lib.hid (RR.out W2 (Below.refl _ _))
    go_wp2_with fail
    go_roundw
    case rel => exact R0.out
    case measure => simp [intOf]; omega
   | false =>
    have LK := ST2.out.look (th, ix) FO.out
    simp only at LK
    by_cases hm : (th, ix) ∈ invN l j
    ·rw [decide_eq_true hm] at LK
     have RR : Hid (HiRel w l u4 (.int .i64 ((j : Int) + 1)) W2) := by
      refine ⟨j + 1, by omega, by go_num, ?_, ?_, BW.out⟩
      all_goals rw [NX.out, IF.out, if_neg (fun h => (SE.out rfl).1 h.2 hm)]; simp only [Option.toList_none, List.append_nil]
      ·exact HO2.out
      ·exact ST2.out
     clear hm
     go_wp2_with fail
     go_roundw
     case rel => exact RR.out
     case measure => simp [intOf]; omega
    ·rw [decide_eq_false hm] at LK
     obtain ⟨w6, hrun, hs6, ht6⟩ := ST2.out.add (th, ix) FO.out hm
     simp only at hrun
     have NY : Hid (invN l (j + 1) = invN l j ++ [(th, ix)]) := by
      rw [NX.out, IF.out, if_pos ⟨rfl, (SE.out rfl).2 hm⟩]; rfl
     have S6 := Lib.hid hs6
     have T6 := Lib.hid ht6
     have BW6 := Lib.hid (turned_belowZ BW.out ht6 (Nat.le_refl _))
     have KA6 : Hid (w6.heap[bx]? = some (opBox (th, ix))) := (ht6.block bx (by omega)).trans KA.out
     have HO6 := Lib.hid (row_keep HO2.out (fun g hg => ht6.block g (by have := (row_kind HO2.out hg).1; omega)))
     have hz6 : w.heap.size + 1 < w6.heap.size := by rw [ht6.size]; omega
     clear hm hs6 ht6
     obtain ⟨z0, z1⟩ := opBox_cells KA6.out
     simp only at z0 z1
     go_wp2_with (at_builtin; refine stopAt ?_)
     unfold StopAt
     refine wpList_app 42 44 Tryz.underlying42 _ 2 16 opInfo rfl (by decide) rfl _ _ rfl (w.heap.size + 1) _ u4 _ _ rfl (HO6.out.alloc _) ⟨w6.heap.size, 0, none⟩ 1 1 (opC2 (th, ix)) rfl rfl ?_ ?_ ?_ ?_ ?_ ?_
     ·exact opC2_box (heap_alloc w6 _).1
     ·intro u hu
      simp only [opC2, List.mem_cons, List.not_mem_nil, or_false] at hu
      rcases hu with rfl | rfl <;> rfl
     ·simp; omega
     ·unfold maxLen; omega
     ·omega
     intro a3 c3 w3 ho3 hg3
     have RR : Hid (HiRel w l (.slice a3 ((invN l j).length + 1) c3) (.int .i64 ((j : Int) + 1)) w3) := by
      refine ⟨j + 1, by omega, by go_num, ?_, ?_, ?_⟩
      ·rw [NY.out, List.length_append, List.flatMap_append]; exact ho3
      ·rw [NY.out]
       have h6 := MapW.lt S6.out
       refine MapW.of_block S6.out ?_
       exact grown_block hg3 h6 (fun e => by have := (row_kind HO6.out e).1; omega)
      ·exact BW6.out.trans (grown_below hg3 (by omega) (fun k hk => by have := (row_kind HO6.out hk).1; omega))
     clear ho3 hg3
     go_wp2_with fail
     go_roundw
     case rel => exact RR.out
     case measure => simp [intOf]; omega
  ·have hje : j = l.length := by omega
   have TT := Lib.hid hje
   obtain ⟨A2, c2, hv⟩ := row_form HO.out
   clear hje
   go_wp2_with fail
   go_ret
   subst hv
   have e : invN l j = invokedP l := by rw [TT.out, inv_all]
   rw [e] at HO
   exact ⟨A2, c2, by show Ending.returned (Value.slice A2 _ c2) = _; rw [e], ordAt_of_row HO.out rfl, HB.out⟩
end Go.Proofs.YtpabdmcbahmjnaaGreat
namespace Go.Proofs.YtpabdmcbahmjnaaGreat
open Go Go.RowKit Go.MapKept Go.WideMaps Go.WideShapes
set_option linter.unusedSimpArgs false
set_option linter.unusedVariables false
theorem run_op2 (w : World) {a b : OpP} (ha : OpFit a) (hb : OpFit b) : (Op.equal 44 (.agg #[.int .i64 a.1, .int .i64 a.2]) (.agg #[.int .i64 b.1, .int .i64 b.2])).run Tryz.prog w = .ok (decide (a = b)) w := by
 obtain ⟨la, h1⟩ := opKey.lit a ha
 obtain ⟨lb, h2⟩ := opKey.lit b hb
 unfold opV at h1 h2
 obtain ⟨q, hq, hi⟩ := run_equal_deep w (m := Tryz.prog.types.size + 1) (of_decide_eq_true (by kernel_rfl)) (k := 44) (by kernel_rfl) (by kernel_rfl) h1 h2
 rw [hq]
 have : q = decide (a = b) := by
  rw [Bool.eq_iff_iff, hi, decide_eq_true_eq]
  exact ⟨fun e => opKey.inj _ _ (opKey.law.inj h1 (e ▸ h2)), fun e => by subst e; rw [h1] at h2; exact Option.some.inj h2⟩
 rw [this]
theorem op2_guard : Tryz.prog.eqGuardType Tryz.prog.depth 44 = false := by kernel_rfl
theorem run_guard2 (op : BinOp) (w : World) (x y : Operand) (u v : Array Value) : (eqGuard op 44 x y (.agg u) (.agg v)).run Tryz.prog w = .ok () w := by
 cases op <;> simp [eqGuard, go_sem, op2_guard]
theorem quiet_op2 {o : Oper} {a : Act} {C : World → Prop} {W : World} {x y : OpP} (p q : Operand) (ho : o.op = .binOp .eql 44 p q 44) (hp : a.eval p = .agg #[.int .i64 x.1, .int .i64 x.2]) (hq : a.eval q = .agg #[.int .i64 y.1, .int .i64 y.2]) (hx : OpFit x) (hy : OpFit y) : o.quietAt Tryz.prog a C W (.bool (decide (x = y))) := by
 unfold Oper.quietAt execOp
 simp only [ho, hp, hq, run_guard2, binOp, Sem.run_bind, Sem.run_pure, Result.andThen_ok, run_op2 W hx hy]
 exact ⟨rfl, rfl⟩
end Go.Proofs.YtpabdmcbahmjnaaGreat
namespace Go.Proofs.YtpabdmcbahmjnaaGreat
open Go Go.RowKit Go.MapKept
set_option linter.unusedSimpArgs false
set_option linter.unusedVariables false
theorem quiet_op2n {o : Oper} {a : Act} {C : World → Prop} {W : World} {x y : OpP} (p q : Operand) (ho : o.op = .binOp .neq 44 p q 44) (hp : a.eval p = .agg #[.int .i64 x.1, .int .i64 x.2]) (hq : a.eval q = .agg #[.int .i64 y.1, .int .i64 y.2]) (hx : OpFit x) (hy : OpFit y) : o.quietAt Tryz.prog a C W (.bool (!decide (x = y))) := by
 unfold Oper.quietAt execOp
 simp only [ho, hp, hq, run_guard2, binOp, Sem.run_bind, Sem.run_pure, Result.andThen_ok, run_op2 W hx hy]
 exact ⟨rfl, rfl⟩
def SaRel (w : World) (a b : List OpP) (i : Value) (wr : World) : Prop := ∃ j : Nat, j ≤ a.length ∧ i = .int .i64 j ∧ a.take j = b.take j ∧ Below w.heap.size w wr
set_option maxRecDepth 100000 in
set_option maxHeartbeats 1000000 in
theorem rsame_any (w : World) (A B : Option Addr) (c d : Nat) (a b : List OpP) (ha : OrdAt w A a) (hb : OrdAt w B b) (fa : OrdFit a) (fb : OrdFit b) (hn : a.length ≤ 1048576) (hm : b.length ≤ 1048576) :
  Calls Tryz.prog 29 #[.slice A a.length c, .slice B b.length d] w fun e w' => e = .returned (.bool (decide (a = b))) ∧ Below w.heap.size w w' := by
 have HA := Lib.hid ha
 have HB := Lib.hid hb
 have XA := Lib.hid fa
 have XB := Lib.hid fb
 clear ha hb fa fb
 have B0 := Lib.hid (Below.refl w.heap.size w)
 by_cases hl : a.length = b.length
 case neg =>
  have R := Lib.hid (show false = decide (a = b) from (decide_eq_false fun e => hl (by rw [e])).symm)
  have hlb : ((a.length : Int) == (b.length : Int)) = false := by simp; omega
  have hli : ¬ (a.length : Int) = (b.length : Int) := by omega
  clear hl
  go_enter Tryz.func29, Tryz.ntmps29
  go_wp2_with fail
  go_ret
  exact ⟨ret_bool R.out, B0.out⟩
 have HL := Lib.hid hl
 have hli : (a.length : Int) = (b.length : Int) := by omega
 clear hl
 go_enter Tryz.func29, Tryz.ntmps29
 go_wp2_with fail
 go_loopw [5] (fun i wr => SaRel w a b i wr) (fun i _ => a.length - (intOf i).toNat)
 case atStart => exact ⟨0, by omega, rfl, by simp, B0.out⟩
 case round =>
  obtain ⟨j, hj, rfl, htk, hbw⟩ := hrel
  have TK := Lib.hid htk
  have BR := Lib.hid hbw
  clear htk hbw
  by_cases hlt : j < a.length
  ·have hlen := HL.out
   obtain ⟨x, hx⟩ : ∃ x, a[j]? = some x := ⟨_, List.getElem?_eq_getElem hlt⟩
   obtain ⟨y, hy⟩ : ∃ y, b[j]? = some y := ⟨_, List.getElem?_eq_getElem (by omega)⟩
   obtain ⟨b1, o1, rfl, hz1, hc1⟩ := HA.out (by omega)
   obtain ⟨b2, o2, rfl, hz2, hc2⟩ := HB.out (by omega)
   have z0 := (BR.out.cell (p := ⟨b1, _, none⟩) hz1).trans (hc1 j x hx).1
   have z1 := (BR.out.cell (p := ⟨b1, _, none⟩) hz1).trans (hc1 j x hx).2
   have z2 := (BR.out.cell (p := ⟨b2, _, none⟩) hz2).trans (hc2 j y hy).1
   have z3 := (BR.out.cell (p := ⟨b2, _, none⟩) hz2).trans (hc2 j y hy).2
   have FX := Lib.hid (XA.out x (List.mem_of_getElem? hx))
   have FY := Lib.hid (XB.out y (List.mem_of_getElem? hy))
   have NX : Hid (x = y → ∀ nq, SaRel w a b (.int .i64 ((j : Int) + 1)) (wr.drewN nq)) := Lib.hid fun he nq =>
    ⟨j + 1, by omega, by go_num, by rw [List.take_add_one, List.take_add_one, hx, hy, TK.out, he], below_drewN BR.out nq⟩
   have NO : Hid (x ≠ y → false = decide (a = b)) := Lib.hid fun he => (decide_eq_false fun e => by
    subst e
    rw [hx] at hy
    exact he (Option.some.inj hy)).symm
   have BN := Lib.hid (fun nq => below_drewN BR.out nq)
   have hj0 : (0 : Int) ≤ j := by omega
   have hj1 : (j : Int) < a.length := by omega
   have hj2 : (j : Int) < b.length := by omega
   clear hc1 hc2 hx hy hlen
   obtain ⟨x0, x1⟩ := x
   obtain ⟨y0, y1⟩ := y
   simp only at z0 z1 z2 z3
   go_wp2_with fail
   refine wp_region_quiet_lit (by kernel_rfl) (by kernel_rfl) ?_
   repeat go_big_quiet_step (fail)
   refine' wpQuiet_take (by kernel_rfl) (fun W _ => quiet_op2n (x := (x0, x1)) (y := (y0, y1)) _ _ rfl rfl rfl FX.out FY.out) ?_
   simp only [Act.put, List.setIfInBounds_toArray, List.set_cons_zero, List.set_cons_succ]
   refine wpQuiet_nil ?_
   intro W2 hw'
   obtain ⟨nq, hw''⟩ := hw'
   subst hw''
   by_cases he : (x0, x1) = (y0, y1)
   ·have NY := Lib.hid (NX.out he nq)
    rw [decide_eq_true he]
    clear he
    go_wp2_with fail
    go_roundw
    case rel => exact NY.out
    case measure => simp [intOf]; omega
   ·have NY := Lib.hid (NO.out he)
    rw [decide_eq_false he]
    clear he
    go_wp2_with fail
    go_ret
    exact ⟨ret_bool NY.out, BN.out nq⟩
  ·have R := Lib.hid (show true = decide (a = b) from (decide_eq_true (by
    have h1 := TK.out
    have h2 := HL.out
    rw [List.take_of_length_le (by omega), List.take_of_length_le (by omega)] at h1
    exact h1)).symm)
   go_wp2_with fail
   go_ret
   exact ⟨ret_bool R.out, BR.out⟩
end Go.Proofs.YtpabdmcbahmjnaaGreat
