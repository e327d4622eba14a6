/- Part of a proof: HPnR HEv. -/
import Derived.Test.YtpabdmcbahmjnaaGreatMA8
namespace Go.Proofs.YtpabdmcbahmjnaaGreat
open Go Go.RowKit Go.MapKept
set_option linter.unusedSimpArgs false
set_option linter.unusedVariables false
set_option maxRecDepth 100000 in
set_option maxHeartbeats 4000000 in
theorem rpending_any (w : World) (A : Option Addr) (c : Nat) (l : List EvD) (hl : l.length ≤ 1048576) (h : EvsAt w A l) :
  Calls Tryz.prog 36 #[.slice A l.length c] w (OrdPost w (pendingP l)) := by
 have H := Lib.hid h
 clear h
 go_enter Tryz.func36, Tryz.ntmps36
 go_wp2_with (first | (go_at_call 35; refine stopAt ?_))
 unfold StopAt
 refine (rinvoked_any w A c l hl H.out).mono ?_
 rintro e w1 ⟨A2, c2, rfl, ho, hb1⟩
 have O1 := Lib.hid ho
 have H1 := Lib.hid (H.out.below hb1)
 have BW1 := Lib.hid hb1
 have hin : (invokedP l).length ≤ l.length := invN_len l l.length
 clear ho hb1
 go_wp2_with fail
 go_loopw [3, 9] (fun v i wr => PnRel w1 l v i wr) (fun _ i _ => (invokedP l).length - (intOf i).toNat)
 case atStart => exact ⟨0, by omega, rfl, World.ownsRow_nil _ _ _ _, Below.refl _ _⟩
 case round =>
  obtain ⟨j, hj, rfl, hown, hbw⟩ := hrel
  have HO := Lib.hid hown
  have HB3 := Lib.hid hbw
  have hsz3 : w1.heap.size ≤ wr.heap.size := hbw.size
  have hln := penN_len l j
  clear hown hbw
  by_cases hlt : j < (invokedP l).length
  ·obtain ⟨a, hx⟩ : ∃ a, (invokedP l)[j]? = some a := ⟨_, List.getElem?_eq_getElem hlt⟩
   obtain ⟨b, off, rfl, hb, hc⟩ := (O1.out.below HB3.out) (by omega)
   obtain ⟨z0, z1⟩ := hc j a hx
   have NX := Lib.hid (penN_succ hx)
   have hj0 : (0 : Int) ≤ j := by omega
   have hj1 : (j : Int) < (invokedP l).length := by omega
   clear hx hc
   obtain ⟨a0, a1⟩ := a
   simp only at z0 z1
   go_upto_region 5 with fail
   obtain ⟨W2, hW2⟩ : ∃ W2, W2 = wr.alloc (.cells #[.int .i64 a0, .int .i64 a1] 44) := ⟨_, rfl⟩
   have B3 : Hid (Below wr.heap.size wr W2) := by rw [hW2]; exact balZ (Below.refl _ _) _
   have KA : Hid (W2.heap[wr.heap.size]? = some (opBox (a0, a1))) := by rw [hW2]; exact (heap_alloc wr _).1
   have BW3 := Lib.hid (HB3.out.trans (B3.out.mono HB3.out.size))
   have HO3 := Lib.hid (row_keep HO.out (fun g hg => B3.out.block g (row_lt HO.out hg)))
   rw [← hW2]
   clear hW2 z0 z1 B3
   generalize hzb : wr.heap.size = zb at *
   clear hzb
   obtain ⟨x0, x1⟩ := opBox_cells KA.out
   simp only at x0 x1
   have l1 := when_lo l (a0, a1) true
   have l2 := when_hi l (a0, a1) true
   go_wp2_with (first | (go_at_call 50; refine stopAt ?_))
   unfold StopAt
   refine (when_any W2 A c l hl (H1.out.below BW3.out) a0 a1 true).mono ?_
   rintro e w4 ⟨rfl, hb4⟩
   have BW4 := Lib.hid (BW3.out.trans (hb4.mono BW3.out.size))
   have HO4 := Lib.hid (row_keep HO3.out (fun g hg => hb4.block g (row_lt HO3.out hg)))
   have KA4 := Lib.hid (kept_block' KA.out hb4)
   have hz4 : w1.heap.size ≤ w4.heap.size := BW4.out.size
   clear hb4 x0 x1
   by_cases hw : whenP l (a0, a1) true < 0
   ·have NY := Lib.hid (NX.out.trans (by rw [if_pos hw]))
    have hd : decide (whenP l (a0, a1) true < 0) = true := by simpa using hw
    obtain ⟨x0, x1⟩ := opBox_cells KA4.out
    simp only at x0 x1
    generalize whenP l (a0, a1) true = wz at *
    go_wp2_with (at_builtin; refine stopAt ?_)
    unfold StopAt
    refine wpList_app 42 44 Tryz.underlying42 _ 2 16 opInfo rfl (by decide) rfl _ _ rfl w1.heap.size _ u3 _ _ rfl (HO4.out.alloc _) ⟨w4.heap.size, 0, none⟩ 1 1 (opC2 (a0, a1)) rfl rfl ?_ ?_ ?_ ?_ ?_ ?_
    ·exact opC2_box (heap_alloc w4 _).1
    ·intro u hu
     simp only [opC2, List.mem_cons, List.not_mem_nil, or_false] at hu
     rcases hu with rfl | rfl <;> rfl
    ·simp; omega
    ·unfold maxLen; omega
    ·omega
    intro a3 c3 w3 ho3 hg3
    have RR : Hid (PnRel w1 l (.slice a3 ((penN l j).length + 1) c3) (.int .i64 ((j : Int) + 1)) w3) := by
     refine ⟨j + 1, by omega, by go_num, ?_, ?_⟩
     ·rw [NY.out, List.length_append, List.flatMap_append]; exact ho3
     ·exact BW4.out.trans (grown_below hg3 (by omega) (fun k hk => (row_kind HO4.out hk).1))
    clear ho3 hg3
    go_wp2_with fail
    go_roundw
    case rel => exact RR.out
    case measure => simp [intOf]; omega
   ·have RR : Hid (PnRel w1 l u3 (.int .i64 ((j : Int) + 1)) w4) := by
     refine ⟨j + 1, by omega, by go_num, ?_, BW4.out⟩
     rw [NX.out, if_neg hw, List.append_nil]
     exact HO4.out
    have hd : decide (whenP l (a0, a1) true < 0) = false := by simpa using hw
    generalize whenP l (a0, a1) true = wz at *
    go_wp2_with fail
    go_roundw
    case rel => exact RR.out
    case measure => simp [intOf]; omega
  ·have hje : j = (invokedP l).length := by omega
   have TT := Lib.hid hje
   obtain ⟨A4, c4, hv⟩ := row_form HO.out
   clear hje
   go_wp2_with fail
   go_ret
   subst hv
   rw [TT.out, penN_all] at HO
   exact ⟨A4, c4, by rw [TT.out, penN_all]; rfl, ordAt_of_row HO.out rfl, BW1.out.trans (HB3.out.mono BW1.out.size)⟩
end Go.Proofs.YtpabdmcbahmjnaaGreat
namespace Go.Proofs.YtpabdmcbahmjnaaGreat
open Go Go.RowKit Go.MapKept Go.WideMaps Go.WideShapes
set_option linter.unusedSimpArgs false
set_option linter.unusedVariables false
def SeRel (w : World) (l : List EvD) (i : Value) (wr : World) : Prop := ∃ j : Nat, j ≤ l.length ∧ i = .int .i64 j ∧ Below w.heap.size w wr
set_option maxRecDepth 100000 in
set_option maxHeartbeats 2000000 in
theorem rsameEv_any (w : World) (A B : Option Addr) (c d : Nat) (l : List EvD) (fe : EvsFit l) (ha : EvsAt w A l) (hb : EvsAt w B l) :
  Calls Tryz.prog 37 #[.slice A l.length c, .slice B l.length d] w fun e w' => e = .returned (.bool true) ∧ Below w.heap.size w w' := by
 have HA := Lib.hid ha
 have HB := Lib.hid hb
 have FE := Lib.hid fe
 have hl := fe.len
 clear ha hb fe
 have hq : ((l.length : Int) != (l.length : Int)) = false := by simp
 go_enter Tryz.func37, Tryz.ntmps37
 go_wp2_with fail
 clear hq
 go_loopw [5] (fun i wr => SeRel w l i wr) (fun i _ => l.length - (intOf i).toNat)
 case atStart => exact ⟨0, by omega, rfl, Below.refl _ _⟩
 case round =>
  obtain ⟨j, hj, rfl, hbw⟩ := hrel
  have BR := Lib.hid hbw
  clear hbw
  by_cases hlt : j < l.length
  ·obtain ⟨e, hx⟩ : ∃ e, l[j]? = some e := ⟨_, List.getElem?_eq_getElem hlt⟩
   obtain ⟨b1, o1, rfl, hz1, hc1⟩ := (HA.out.below BR.out) (by omega)
   obtain ⟨b2, o2, rfl, hz2, hc2⟩ := (HB.out.below BR.out) (by omega)
   obtain ⟨e0, e1, e2⟩ := ev_cells (hc1 j e hx)
   obtain ⟨g0, g1, g2, g3, g4, g5, g6, g7⟩ := ev_res (hc1 j e hx)
   obtain ⟨e0', e1', e2'⟩ := ev_cells (hc2 j e hx)
   obtain ⟨g0', g1', g2', g3', g4', g5', g6', g7'⟩ := ev_res (hc2 j e hx)
   have hj0 : (0 : Int) ≤ j := by omega
   have hj1 : (j : Int) < l.length := by omega
   have NX : Hid (∀ nq, SeRel w l (.int .i64 ((j : Int) + 1)) (wr.drewN nq)) := Lib.hid fun nq => ⟨j + 1, by omega, by go_num, below_drewN BR.out nq⟩
   clear hc1 hc2 hx
   obtain ⟨th, ix, rt, rs⟩ := e
   simp only at e0 e1 e2 g0 g1 g2 g3 g4 g5 g6 g7 e0' e1' e2' g0' g1' g2' g3' g4' g5' g6' g7'
   go_wp2_with fail
   refine wp_region_quiet_lit (by kernel_rfl) (by kernel_rfl) ?_
   repeat go_big_quiet_step (fail)
   refine wpQuiet_nil ?_
   intro W2 hw'
   obtain ⟨nq, hw''⟩ := hw'
   subst hw''
   clear e0 e1 e2 g0 g1 g2 g3 g4 g5 g6 g7 e0' e1' e2' g0' g1' g2' g3' g4' g5' g6' g7'
   go_wp2_with fail
   go_roundw
   case rel => exact NX.out nq
   case measure => simp [intOf]; omega
  ·have hje : j = l.length := by omega
   subst hje
   go_wp2_with fail
   go_ret
   exact ⟨rfl, BR.out⟩
set_option maxRecDepth 100000 in
set_option maxHeartbeats 2000000 in
theorem rthread_any (w : World) (A : Option Addr) (c : Nat) (l : List EvD) (hl : l.length ≤ 1048576) (h : EvsAt w A l) (t : Int) :
  Calls Tryz.prog 38 #[.slice A l.length c, .int .i64 t] w (EvPost w (threadP l t)) := by
 have H := Lib.hid h
 clear h
 go_enter Tryz.func38, Tryz.ntmps38
 go_wp2_with fail
 go_loopw [5, 6] (fun v i wr => ThRel w l t v i wr) (fun _ i _ => l.length - (intOf i).toNat)
 case atStart => exact ⟨0, by omega, rfl, World.ownsRow_nil _ _ _ _, Below.refl _ _⟩
 case round =>
  obtain ⟨j, hj, rfl, hown, hbw⟩ := hrel
  have HO := Lib.hid hown
  have HB := Lib.hid hbw
  have hsz : w.heap.size ≤ wr.heap.size := hbw.size
  have hln := thread_len l t j
  clear hown hbw
  by_cases hlt : j < l.length
  ·obtain ⟨e, hx⟩ : ∃ e, l[j]? = some e := ⟨_, List.getElem?_eq_getElem hlt⟩
   obtain ⟨b, off, rfl, hb, hc⟩ := (H.out.below HB.out) (by omega)
   obtain ⟨e0, e1, e2⟩ := ev_cells (hc j e hx)
   obtain ⟨g0, g1, g2, g3, g4, g5, g6, g7⟩ := ev_res (hc j e hx)
   have hj0 : (0 : Int) ≤ j := by omega
   have hj1 : (j : Int) < l.length := by omega
   have NX := Lib.hid (thread_succ hx t)
   clear hx hc
   obtain ⟨th, ix, rt, rs⟩ := e
   simp only at e0 e1 e2 g0 g1 g2 g3 g4 g5 g6 g7
   by_cases he : th = t
   ·subst he
    have NY := Lib.hid (NX.out.trans (by rw [if_pos rfl]))
    have hq : (th == th) = true := by simp
    go_wp2_with (at_builtin; refine stopAt ?_)
    unfold StopAt
    refine wpList_app 35 72 Tryz.underlying35 _ 11 96 evInfoH rfl (by decide) rfl _ _ rfl w.heap.size _ u5 _ _ rfl (HO.out.alloc _) ⟨wr.heap.size, 0, none⟩ 1 1 (EvD.cells ⟨th, ix, rt, rs⟩) rfl rfl ?_ (evCells_one _) ?_ ?_ ?_ ?_
    ·exact evCells_box (heap_alloc wr _).1
    ·simp; omega
    ·unfold maxLen; omega
    ·omega
    intro a3 c3 w3 ho3 hg3
    have RR : Hid (ThRel w l th (.slice a3 ((threadP (l.take j) th).length + 1) c3) (.int .i64 ((j : Int) + 1)) w3) := by
     refine ⟨j + 1, by omega, by go_num, ?_, ?_⟩
     ·rw [NY.out, List.length_append, List.flatMap_append]; exact ho3
     ·exact HB.out.trans (grown_below hg3 (by omega) (fun k hk => (row_kind HO.out hk).1))
    clear ho3 hg3 e0 e1 e2 g0 g1 g2 g3 g4 g5 g6 g7
    go_wp2_with fail
    go_roundw
    case rel => exact RR.out
    case measure => simp [intOf]; omega
   ·have RR : Hid (ThRel w l t u5 (.int .i64 ((j : Int) + 1)) wr) := by
     refine ⟨j + 1, by omega, by go_num, ?_, HB.out⟩
     rw [NX.out, if_neg he, List.append_nil]
     exact HO.out
    have hq : (th == t) = false := by simpa using he
    go_wp2_with fail
    go_roundw
    case rel => exact RR.out
    case measure => simp [intOf]; omega
  ·have hje : j = l.length := by omega
   have TT := Lib.hid hje
   obtain ⟨A2, c2, hv⟩ := row_form HO.out
   clear hje
   go_wp2_with fail
   go_ret
   subst hv
   rw [TT.out, List.take_length] at HO
   exact ⟨A2, c2, by rw [TT.out, List.take_length]; rfl, evsAt_of_row HO.out rfl, HB.out⟩
end Go.Proofs.YtpabdmcbahmjnaaGreat
