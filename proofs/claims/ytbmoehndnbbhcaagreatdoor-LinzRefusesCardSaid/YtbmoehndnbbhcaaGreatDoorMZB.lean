/- The walk of the reference's refused. The walk of the reference's Apply: the refusals. The walks of the reference's Before, Result, Refused. -/
import Derived.Test.YtbmoehndnbbhcaaGreatDoorRKeyed
import Derived.Deep.Quiet
import Derived.Deep.RegionHeld3
import Derived.Test.YtbmoehndnbbhcaaGreatDoorMZE
import Derived.Test.YtbmoehndnbbhcaaGreatDoorMZRes
namespace Go.Proofs.YtbmoehndnbbhcaaGreatDoor
set_option linter.unusedVariables false
set_option linter.unusedSimpArgs false
open Go Go.RowKit Go.MapKept
section
variable {P : Program} {ops : Array Oper} {C : World → Prop} {Q : Act → Prop} {a : Act} {o : Oper} {rest : List Oper}
theorem wp_region_class {id : Nat} {Q : Exit → Act → World → Prop} {a : Act} {w : World} {l : List Oper} (hm : P.follows .mixedOrders = true) (hB : Region.lexB .any l.toArray = true) (hC : C w.drew)
    (h : wpQuiet P l.toArray C (fun a' => ∀ w', C w' → Q .normal a' w') l a) : (Code.region id l.toArray true).wp P Q a w :=
  wp_region_quiet (C := C) hm hB hC (by simpa using h)
theorem wpQuiet_take {v : Value} (hw : Region.wanted o (yielded ops a.tmps) = true) (hy : ∀ w, C w → o.quietAt P a C w v) (h : wpQuiet P ops C Q rest (a.put o.dst v)) : wpQuiet P ops C Q (o :: rest) a :=
  wpQuiet_step fun K hK => by rw [if_pos hw]; exact ⟨v, hy, hK _ h⟩
end
theorem lift_below {w W w' : World} {x y : Ending} (hb : Below w.heap.size w W) (h : x = y ∧ Below W.heap.size W w') : x = y ∧ Below w.heap.size w w' := ⟨h.1, hb.trans (h.2.mono hb.size)⟩
def keyedB (k : Int) : Bool := decide (1 ≤ k) && decide (k ≤ 7)
def changeB (k : Int) : Bool := (decide (1 ≤ k) && decide (k ≤ 6)) || k == 10
/-- the two boxes of the arguments -/
theorem refu_w (w : World) (o0 o1 : Obj) : Below w.heap.size w ((w.alloc o0).alloc o1) ∧ ((w.alloc o0).alloc o1).heap[w.heap.size]? = some o0 ∧ ((w.alloc o0).alloc o1).heap[w.heap.size + 1]? = some o1 ∧ ((w.alloc o0).alloc o1).heap.size = w.heap.size + 1 + 1 := by
  refine ⟨((Below.refl _ _).alloc (Nat.le_refl _) _).alloc (by simp) _, (Below.heap_alloc _ _ _ (by simp)).trans (heap_alloc w _).1, newfam_block w o0 o1, by simp⟩
set_option maxRecDepth 100000 in
set_option maxHeartbeats 2000000 in
theorem refused_any (T : Nat → Prop) (w : World) (A D : Option Addr) (c d : Nat) (g : RFam) (h : RFamAt T w A D g) (t i : Int) (ht : -9223372036854775808 ≤ t ∧ t ≤ 9223372036854775807) (hi : -9223372036854775808 ≤ i ∧ i ≤ 9223372036854775807) (o : OpD) (hkey : o.key.size ≤ maxLen) :
    Calls Tryz.prog 49 #[rfamV g A c D d, .int .i64 t, .int .i64 i, o.val] w fun e w' => e = .returned (.int .i64 (refusedR g t i o)) ∧ Below w.heap.size w w' := by
  obtain ⟨okind, ohandle, okey, ovalue, oexpect⟩ := o
  simp only at hkey
  obtain ⟨W0, hW0⟩ : ∃ W0, W0 = (w.alloc (.cells #[.int .u64 g.mask, .slice A g.maps.length c, .slice D g.walks.length d] 72)).alloc (.cells #[.int .i64 okind, .int .i64 ohandle, .string okey, .int .u64 ovalue, .int .u64 oexpect] 60) := ⟨_, rfl⟩
  obtain ⟨hb0, hk0, hk1, hs0⟩ := refu_w w (.cells #[.int .u64 g.mask, .slice A g.maps.length c, .slice D g.walks.length d] 72) (.cells #[.int .i64 okind, .int .i64 ohandle, .string okey, .int .u64 ovalue, .int .u64 oexpect] 60)
  rw [← hW0] at hb0 hk0 hk1 hs0
  have H0 := h.below hb0
  have FI : Hid (∀ n W, Below W0.heap.size W0 W → Calls Tryz.prog 51 #[.agg #[.int .u64 g.mask, .slice A g.maps.length c, .slice D g.walks.length d], .int .i64 n] W fun e w' => e = .returned (.int .i64 (idxO (findM g.maps n))) ∧ Below W0.heap.size W0 w') := fun n W hb => (find_any T W A D c d g (H0.below hb) n).mono fun e w' p => lift_below hb p
  have WA : Hid (∀ n W, Below W0.heap.size W0 W → Calls Tryz.prog 53 #[.agg #[.int .u64 g.mask, .slice A g.maps.length c, .slice D g.walks.length d], .int .i64 n] W fun e w' => e = .returned (.int .i64 (idxO (findW g.walks n))) ∧ Below W0.heap.size W0 w') := fun n W hb => (walk_any T W A D c d g (H0.below hb) n).mono fun e w' p => lift_below hb p
  have KEEP : Hid (∀ W, Below W0.heap.size W0 W → (W.cell? ⟨w.heap.size, 0, none⟩ = some (.int .u64 g.mask) ∧ W.cell? ⟨w.heap.size, 1, none⟩ = some (.slice A g.maps.length c) ∧ W.cell? ⟨w.heap.size, 2, none⟩ = some (.slice D g.walks.length d)) ∧ (W.cell? ⟨w.heap.size + 1, 0, none⟩ = some (.int .i64 okind) ∧ W.cell? ⟨w.heap.size + 1, 1, none⟩ = some (.int .i64 ohandle) ∧ W.cell? ⟨w.heap.size + 1, 2, none⟩ = some (.string okey))) := fun W hb => by
    have x0 := (hb.block w.heap.size (by omega)).trans hk0
    have x1 := (hb.block (w.heap.size + 1) (by omega)).trans hk1
    exact ⟨⟨blk_cell x0 0, blk_cell x0 1, blk_cell x0 2⟩, ⟨blk_cell x1 0, blk_cell x1 1, blk_cell x1 2⟩⟩
  have HR := Lib.hid H0
  have hlm := h.fit.lm
  have hlw := h.fit.lw
  have HN := Lib.hid (refnum_any t i W0 ht hi)
  have hr := Below.refl W0.heap.size W0
  have HB := Lib.hid hr
  have HW := Lib.hid hW0
  have HK := Lib.hid (valid_ref okey)
  have HM := Lib.hid hkey
  have B0 := Lib.hid hb0
  clear hb0 hk0 hk1 hs0 hW0 H0 h hr ht hi hkey
  simp only [rfamV, OpD.val]
  go_enter Tryz.func49, Tryz.ntmps49
  go_upto_region 1 with fail
  rw [← HW.out]
  go_wp2_with fail
  refine HN.out.mono ?_
  rintro e w' ⟨rfl, rfl⟩
  have EN := Lib.hid (show refusedR g t i ⟨okind, ohandle, okey, ovalue, oexpect⟩ = _ from rfl)
  go_upto_region 2 with fail
  obtain ⟨⟨y0, y1, y2⟩, p0, p1, p2⟩ := KEEP.out _ HB.out
  go_cut [10] from 17 to 24 (fun v10 wx => v10 = .bool (keyedB okind) ∧ wx = W0)
  case first =>
    have kinds : okind < 1 ∨ (1 ≤ okind ∧ okind ≤ 7) ∨ 7 < okind := by omega
    rcases kinds with k | k | k
    all_goals
      go_wp2_with fail
      go_meet
      refine ⟨?_, rfl⟩
      simp only [keyedB]
      simp
      omega
  case rest =>
    obtain ⟨rfl, rfl⟩ := hcut
    go_upto_region 3 with fail
    go_cut [11] from 25 to 37 (fun v11 wx => v11 = .bool (changeB okind) ∧ wx = wc)
    case first =>
      have kinds : okind < 1 ∨ (1 ≤ okind ∧ okind ≤ 6) ∨ 6 < okind := by omega
      rcases kinds with k | k | k
      all_goals
        cases hk : (okind == 10)
        all_goals
          go_wp2_with fail
          go_meet
          refine ⟨?_, rfl⟩
          simp only [changeB, hk]
          (simp <;> omega)
    case rest =>
      obtain ⟨rfl, rfl⟩ := hcut
      go_upto_region 4 with fail
      refine wp_region_class (C := fun W => Below wc.heap.size wc W) (by kernel_rfl) (by kernel_rfl) HB.out.drew ?_
      clear y0 y1 y2 p0 p1 p2
      repeat (first | go_big_quiet_step (fail) | (refine' wpQuiet_take (by kernel_rfl) (fun W hW => ?_) ?_; rotate_left; (obtain ⟨⟨y0, y1, y2⟩, p0, p1, p2⟩ := KEEP.out W hW); go_simp; (first | rfl | (with_reducible exact FI.out _ _ hW) | (with_reducible exact WA.out _ _ hW)); (simp only [Act.put, List.setIfInBounds_toArray, List.set_cons_zero, List.set_cons_succ])))
      refine wpQuiet_nil ?_
      intro w6 hb6
      -- TREE
      obtain ⟨⟨y0, y1, y2⟩, p0, p1, p2⟩ := KEEP.out _ hb6
      have HB6 := Lib.hid hb6
      have HR6 := Lib.hid (HR.out.below hb6)
      clear hb6 EN HN
      have UN := Lib.hid (show refusedR g t i ⟨okind, ohandle, okey, ovalue, oexpect⟩ = (if numberOf t i < 0 ∨ okind < 1 ∨ 13 < okind then 1 else if okind = 13 ∧ strangerR (findW g.walks ohandle) t = true then 5 else if okind ≠ 13 ∧ (findM g.maps ohandle).isNone then 5 else if okind ≤ 7 ∧ ¬ (okey.size : Int) ≤ 64 then 1 else if (okind ≤ 6 ∨ okind = 10) ∧ roR (findM g.maps ohandle) true = true then 6 else if (okind = 11 ∨ okind = 12) ∧ roR (findM g.maps ohandle) false = true then 7 else if (findM g.maps (numberOf t i)).isSome ∨ (findW g.walks (numberOf t i)).isSome then 8 else 0) from rfl)
      generalize numberOf t i = N at *
      by_cases hA : N < 0 ∨ okind < 1 ∨ 13 < okind
      · have R1 := Lib.hid (UN.out.trans (if_pos hA))
        clear UN
        by_cases a1 : N < 0
        · clear hA
          have RR := Lib.hid (show _ = _ from R1.out)
          go_wp2_with fail
          go_ret
          exact ⟨ret_int RR.out.symm, B0.out.trans (HB6.out.mono B0.out.size)⟩
        · by_cases a2 : okind < 1
          · clear hA
            have RR := Lib.hid (show _ = _ from R1.out)
            go_wp2_with fail
            go_ret
            exact ⟨ret_int RR.out.symm, B0.out.trans (HB6.out.mono B0.out.size)⟩
          · have a3 : 13 < okind := by omega
            clear hA
            have RR := Lib.hid (show _ = _ from R1.out)
            go_wp2_with fail
            go_ret
            exact ⟨ret_int RR.out.symm, B0.out.trans (HB6.out.mono B0.out.size)⟩
      · have R0 := Lib.hid (UN.out.trans (if_neg hA))
        have a1 : ¬ N < 0 := by omega
        have a2 : ¬ okind < 1 := by omega
        have a3 : ¬ 13 < okind := by omega
        clear hA UN
        by_cases h13 : okind = 13
        · subst h13
          have kb : keyedB 13 = false := rfl
          have cb : changeB 13 = false := rfl
          cases hw : findW g.walks ohandle with
          | none =>
            have e7 : idxO (none : Option (Nat × IterD)) = -1 := rfl
            rw [hw] at R0
            rw [e7]
            clear e7 hw a2 a3
            have RR := Lib.hid (show _ = _ from R0.out.trans (if_pos ⟨rfl, rfl⟩))
            go_wp2_with fail
            go_ret
            exact ⟨ret_int RR.out.symm, B0.out.trans (HB6.out.mono B0.out.size)⟩
          | some q =>
            obtain ⟨j, it⟩ := q
            obtain ⟨m, hm1, hm2⟩ := findW_at hw
            have hj := (List.getElem?_eq_some_iff.1 hm1).1
            obtain ⟨bw, rfl, hT, hz, hc⟩ := HR6.out.walks (by omega)
            obtain ⟨_, c1, _, _⟩ := hc j _ hm1
            simp only at c1
            have e7 : idxO (some (j, it)) = (j : Int) := rfl
            rw [hw] at R0
            rw [e7]
            have j0 : (0 : Int) ≤ j := by omega
            have j1 : (j : Int) < g.walks.length := by omega
            clear e7 hw hm1 hm2 hc hT hz a2 a3
            cases hth : (it.thread != t) with
            | true =>
              have S0 := Lib.hid (R0.out.trans (if_pos ⟨rfl, hth⟩))
              clear R0
              have RR := Lib.hid (show _ = _ from S0.out)
              go_wp2_with fail
              go_ret
              exact ⟨ret_int RR.out.symm, B0.out.trans (HB6.out.mono B0.out.size)⟩
            | false =>
              have RR : Hid (refusedR g t i ⟨_, ohandle, okey, ovalue, oexpect⟩ = if (findM g.maps N).isSome ∨ (findW g.walks N).isSome then 8 else 0) := Lib.hid (R0.out.trans (by rw [if_neg (by rw [show strangerR (some (j, it)) t = (it.thread != t) from rfl, hth]; simp), if_neg (by simp), if_neg (by simp), if_neg (by simp), if_neg (by simp)]))
              clear R0
              go_wp2_with fail
              refine (FI.out _ _ HB6.out).mono ?_
              rintro e w7 ⟨rfl, hb7⟩
              obtain ⟨⟨y0, y1, y2⟩, p0, p1, p2⟩ := KEEP.out _ hb7
              have HB7 := Lib.hid hb7
              clear hb7
              cases hfm : findM g.maps N with
              | some q =>
                have SR := Lib.hid (RR.out.trans (by rw [hfm]; simp : _ = (8 : Int)))
                obtain ⟨j7, d7⟩ := q
                have e7 : idxO (some (j7, d7)) = (j7 : Int) := rfl
                rw [e7]
                clear e7 hfm RR
                have j70 : (0 : Int) ≤ j7 := by omega
                go_wp2_with fail
                go_ret
                exact ⟨ret_int SR.out.symm, B0.out.trans (HB7.out.mono B0.out.size)⟩
              | none =>
                have SR := Lib.hid (RR.out.trans (by rw [hfm]; simp : _ = if (findW g.walks N).isSome then (8 : Int) else 0))
                have e7 : idxO (none : Option (Nat × RMap)) = -1 := rfl
                rw [e7]
                clear e7 hfm RR
                go_wp2_with fail
                refine (WA.out _ _ HB7.out).mono ?_
                rintro e w8 ⟨rfl, hb8⟩
                have HB8 := Lib.hid hb8
                clear hb8
                cases hfw : findW g.walks N with
                | some q =>
                  have SS := Lib.hid (SR.out.trans (by rw [hfw]; simp : _ = (8 : Int)))
                  obtain ⟨j8, d8⟩ := q
                  have e8 : idxO (some (j8, d8)) = (j8 : Int) := rfl
                  rw [e8]
                  clear e8 hfw SR
                  have j80 : (0 : Int) ≤ j8 := by omega
                  go_wp2_with fail
                  go_ret
                  exact ⟨ret_int SS.out.symm, B0.out.trans (HB8.out.mono B0.out.size)⟩
                | none =>
                  have SS := Lib.hid (SR.out.trans (by rw [hfw]; simp : _ = (0 : Int)))
                  have e8 : idxO (none : Option (Nat × IterD)) = -1 := rfl
                  rw [e8]
                  clear e8 hfw SR
                  go_wp2_with fail
                  go_ret
                  exact ⟨ret_int SS.out.symm, B0.out.trans (HB8.out.mono B0.out.size)⟩
        · have k13 : (okind == 13) = false := by simpa using h13
          have k13n : (okind != 13) = true := by simpa using h13
          have R1 := Lib.hid (R0.out.trans (if_neg (fun e => h13 e.1)))
          cases hm : findM g.maps ohandle with
          | none =>
            have e7 : idxO (none : Option (Nat × RMap)) = -1 := rfl
            have S0 := Lib.hid (R1.out.trans (if_pos ⟨h13, by rw [hm]; rfl⟩))
            rw [e7]
            clear e7 hm R0 R1 h13
            have RR := Lib.hid (show _ = _ from S0.out)
            go_wp2_with fail
            go_ret
            exact ⟨ret_int RR.out.symm, B0.out.trans (HB6.out.mono B0.out.size)⟩
          | some q =>
            obtain ⟨k, x⟩ := q
            obtain ⟨hm1, hm2⟩ := findM_at hm
            have hk := (List.getElem?_eq_some_iff.1 hm1).1
            obtain ⟨b, rfl, hT, hz, hc⟩ := HR6.out.maps (by omega)
            obtain ⟨_, _, _, c1, _, _⟩ := hc k _ hm1
            have e7 : idxO (some (k, x)) = (k : Int) := rfl
            have R2 := Lib.hid (R1.out.trans (if_neg (by rw [hm]; simp)))
            rw [hm] at R2
            rw [e7]
            have k0 : (0 : Int) ≤ k := by omega
            have k1 : (k : Int) < g.maps.length := by omega
            clear e7 hm hm1 hm2 hc hT hz R0 R1
            by_cases h7 : okind ≤ 7
            · have kb : keyedB okind = true := by simp only [keyedB]; simp; omega
              cases hv : decide ((okey.size : Int) ≤ 64) with
              | false =>
                have S0 := Lib.hid (R2.out.trans (if_pos ⟨h7, by simpa using hv⟩))
                have HKV := Lib.hid (fun W => hv ▸ HK.out W HM.out)
                clear hv
                clear R2 h13 h7
                have RR := Lib.hid (show _ = _ from S0.out)
                go_wp2_with (go_at_call 65; refine (HKV.out _).mono ?_; rintro e w' ⟨rfl, rfl⟩)
                go_ret
                exact ⟨ret_int RR.out.symm, B0.out.trans (HB6.out.mono B0.out.size)⟩
              | true =>
                have R3 := Lib.hid (R2.out.trans (if_neg (fun e => e.2 (by simpa using hv))))
                have HKV := Lib.hid (fun W => hv ▸ HK.out W HM.out)
                clear hv
                clear R2
                by_cases h6 : okind ≤ 6
                · have cb : changeB okind = true := by simp only [changeB]; simp; omega
                  have k11 : (okind == 11) = false := by simp; omega
                  have k12 : (okind == 12) = false := by simp; omega
                  cases hro : x.ro with
                  | true =>
                    have S0 := Lib.hid (R3.out.trans (if_pos ⟨Or.inl h6, by rw [show roR (some (k, x)) true = (x.ro == true) from rfl, hro]; rfl⟩))
                    rw [hro] at c1
                    clear R3 h13 h7 h6 hro
                    have RR := Lib.hid (show _ = _ from S0.out)
                    go_wp2_with (go_at_call 65; refine (HKV.out _).mono ?_; rintro e w' ⟨rfl, rfl⟩)
                    go_ret
                    exact ⟨ret_int RR.out.symm, B0.out.trans (HB6.out.mono B0.out.size)⟩
                  | false =>
                    have R0 := Lib.hid (R3.out.trans (by rw [if_neg (by rw [show roR (some (k, x)) true = (x.ro == true) from rfl, hro]; simp), if_neg (by omega)] : _ = if (findM g.maps N).isSome ∨ (findW g.walks N).isSome then (8 : Int) else 0))
                    rw [hro] at c1
                    clear R3 h13 h7 h6 hro
                    have RR : Hid (refusedR g t i ⟨_, ohandle, okey, ovalue, oexpect⟩ = if (findM g.maps N).isSome ∨ (findW g.walks N).isSome then 8 else 0) := Lib.hid (R0.out)
                    clear R0
                    go_wp2_with (go_at_call 65; refine (HKV.out _).mono ?_; rintro e w' ⟨rfl, rfl⟩)
                    refine (FI.out _ _ HB6.out).mono ?_
                    rintro e w7 ⟨rfl, hb7⟩
                    obtain ⟨⟨y0, y1, y2⟩, p0, p1, p2⟩ := KEEP.out _ hb7
                    have HB7 := Lib.hid hb7
                    clear hb7
                    cases hfm : findM g.maps N with
                    | some q =>
                      have SR := Lib.hid (RR.out.trans (by rw [hfm]; simp : _ = (8 : Int)))
                      obtain ⟨j7, d7⟩ := q
                      have e7 : idxO (some (j7, d7)) = (j7 : Int) := rfl
                      rw [e7]
                      clear e7 hfm RR
                      have j70 : (0 : Int) ≤ j7 := by omega
                      go_wp2_with fail
                      go_ret
                      exact ⟨ret_int SR.out.symm, B0.out.trans (HB7.out.mono B0.out.size)⟩
                    | none =>
                      have SR := Lib.hid (RR.out.trans (by rw [hfm]; simp : _ = if (findW g.walks N).isSome then (8 : Int) else 0))
                      have e7 : idxO (none : Option (Nat × RMap)) = -1 := rfl
                      rw [e7]
                      clear e7 hfm RR
                      go_wp2_with fail
                      refine (WA.out _ _ HB7.out).mono ?_
                      rintro e w8 ⟨rfl, hb8⟩
                      have HB8 := Lib.hid hb8
                      clear hb8
                      cases hfw : findW g.walks N with
                      | some q =>
                        have SS := Lib.hid (SR.out.trans (by rw [hfw]; simp : _ = (8 : Int)))
                        obtain ⟨j8, d8⟩ := q
                        have e8 : idxO (some (j8, d8)) = (j8 : Int) := rfl
                        rw [e8]
                        clear e8 hfw SR
                        have j80 : (0 : Int) ≤ j8 := by omega
                        go_wp2_with fail
                        go_ret
                        exact ⟨ret_int SS.out.symm, B0.out.trans (HB8.out.mono B0.out.size)⟩
                      | none =>
                        have SS := Lib.hid (SR.out.trans (by rw [hfw]; simp : _ = (0 : Int)))
                        have e8 : idxO (none : Option (Nat × IterD)) = -1 := rfl
                        rw [e8]
                        clear e8 hfw SR
                        go_wp2_with fail
                        go_ret
                        exact ⟨ret_int SS.out.symm, B0.out.trans (HB8.out.mono B0.out.size)⟩
                · obtain rfl : okind = 7 := by omega
                  have cb : changeB 7 = false := rfl
                  have R0 := Lib.hid (R3.out.trans (by rw [if_neg (by simp), if_neg (by simp)] : _ = if (findM g.maps N).isSome ∨ (findW g.walks N).isSome then (8 : Int) else 0))
                  clear R3 h13 h7 h6
                  have RR : Hid (refusedR g t i ⟨_, ohandle, okey, ovalue, oexpect⟩ = if (findM g.maps N).isSome ∨ (findW g.walks N).isSome then 8 else 0) := Lib.hid (R0.out)
                  clear R0
                  go_wp2_with (go_at_call 65; refine (HKV.out _).mono ?_; rintro e w' ⟨rfl, rfl⟩)
                  refine (FI.out _ _ HB6.out).mono ?_
                  rintro e w7 ⟨rfl, hb7⟩
                  obtain ⟨⟨y0, y1, y2⟩, p0, p1, p2⟩ := KEEP.out _ hb7
                  have HB7 := Lib.hid hb7
                  clear hb7
                  cases hfm : findM g.maps N with
                  | some q =>
                    have SR := Lib.hid (RR.out.trans (by rw [hfm]; simp : _ = (8 : Int)))
                    obtain ⟨j7, d7⟩ := q
                    have e7 : idxO (some (j7, d7)) = (j7 : Int) := rfl
                    rw [e7]
                    clear e7 hfm RR
                    have j70 : (0 : Int) ≤ j7 := by omega
                    go_wp2_with fail
                    go_ret
                    exact ⟨ret_int SR.out.symm, B0.out.trans (HB7.out.mono B0.out.size)⟩
                  | none =>
                    have SR := Lib.hid (RR.out.trans (by rw [hfm]; simp : _ = if (findW g.walks N).isSome then (8 : Int) else 0))
                    have e7 : idxO (none : Option (Nat × RMap)) = -1 := rfl
                    rw [e7]
                    clear e7 hfm RR
                    go_wp2_with fail
                    refine (WA.out _ _ HB7.out).mono ?_
                    rintro e w8 ⟨rfl, hb8⟩
                    have HB8 := Lib.hid hb8
                    clear hb8
                    cases hfw : findW g.walks N with
                    | some q =>
                      have SS := Lib.hid (SR.out.trans (by rw [hfw]; simp : _ = (8 : Int)))
                      obtain ⟨j8, d8⟩ := q
                      have e8 : idxO (some (j8, d8)) = (j8 : Int) := rfl
                      rw [e8]
                      clear e8 hfw SR
                      have j80 : (0 : Int) ≤ j8 := by omega
                      go_wp2_with fail
                      go_ret
                      exact ⟨ret_int SS.out.symm, B0.out.trans (HB8.out.mono B0.out.size)⟩
                    | none =>
                      have SS := Lib.hid (SR.out.trans (by rw [hfw]; simp : _ = (0 : Int)))
                      have e8 : idxO (none : Option (Nat × IterD)) = -1 := rfl
                      rw [e8]
                      clear e8 hfw SR
                      go_wp2_with fail
                      go_ret
                      exact ⟨ret_int SS.out.symm, B0.out.trans (HB8.out.mono B0.out.size)⟩
            · have R3 := Lib.hid (R2.out.trans (if_neg (fun e => h7 e.1)))
              have kinds : okind = 8 ∨ okind = 9 ∨ okind = 10 ∨ okind = 11 ∨ okind = 12 := by omega
              clear R2 a2 a3 h7 h13 k13 k13n
              rcases kinds with rfl | rfl | rfl | rfl | rfl
              · have kb : keyedB 8 = false := rfl
                have cb : changeB 8 = false := rfl
                have R0 := Lib.hid (R3.out.trans (by rw [if_neg (by simp), if_neg (by simp)] : _ = if (findM g.maps N).isSome ∨ (findW g.walks N).isSome then (8 : Int) else 0))
                clear R3
                have RR : Hid (refusedR g t i ⟨_, ohandle, okey, ovalue, oexpect⟩ = if (findM g.maps N).isSome ∨ (findW g.walks N).isSome then 8 else 0) := Lib.hid (R0.out)
                clear R0
                go_wp2_with fail
                refine (FI.out _ _ HB6.out).mono ?_
                rintro e w7 ⟨rfl, hb7⟩
                obtain ⟨⟨y0, y1, y2⟩, p0, p1, p2⟩ := KEEP.out _ hb7
                have HB7 := Lib.hid hb7
                clear hb7
                cases hfm : findM g.maps N with
                | some q =>
                  have SR := Lib.hid (RR.out.trans (by rw [hfm]; simp : _ = (8 : Int)))
                  obtain ⟨j7, d7⟩ := q
                  have e7 : idxO (some (j7, d7)) = (j7 : Int) := rfl
                  rw [e7]
                  clear e7 hfm RR
                  have j70 : (0 : Int) ≤ j7 := by omega
                  go_wp2_with fail
                  go_ret
                  exact ⟨ret_int SR.out.symm, B0.out.trans (HB7.out.mono B0.out.size)⟩
                | none =>
                  have SR := Lib.hid (RR.out.trans (by rw [hfm]; simp : _ = if (findW g.walks N).isSome then (8 : Int) else 0))
                  have e7 : idxO (none : Option (Nat × RMap)) = -1 := rfl
                  rw [e7]
                  clear e7 hfm RR
                  go_wp2_with fail
                  refine (WA.out _ _ HB7.out).mono ?_
                  rintro e w8 ⟨rfl, hb8⟩
                  have HB8 := Lib.hid hb8
                  clear hb8
                  cases hfw : findW g.walks N with
                  | some q =>
                    have SS := Lib.hid (SR.out.trans (by rw [hfw]; simp : _ = (8 : Int)))
                    obtain ⟨j8, d8⟩ := q
                    have e8 : idxO (some (j8, d8)) = (j8 : Int) := rfl
                    rw [e8]
                    clear e8 hfw SR
                    have j80 : (0 : Int) ≤ j8 := by omega
                    go_wp2_with fail
                    go_ret
                    exact ⟨ret_int SS.out.symm, B0.out.trans (HB8.out.mono B0.out.size)⟩
                  | none =>
                    have SS := Lib.hid (SR.out.trans (by rw [hfw]; simp : _ = (0 : Int)))
                    have e8 : idxO (none : Option (Nat × IterD)) = -1 := rfl
                    rw [e8]
                    clear e8 hfw SR
                    go_wp2_with fail
                    go_ret
                    exact ⟨ret_int SS.out.symm, B0.out.trans (HB8.out.mono B0.out.size)⟩
              · have kb : keyedB 9 = false := rfl
                have cb : changeB 9 = false := rfl
                have R0 := Lib.hid (R3.out.trans (by rw [if_neg (by simp), if_neg (by simp)] : _ = if (findM g.maps N).isSome ∨ (findW g.walks N).isSome then (8 : Int) else 0))
                clear R3
                have RR : Hid (refusedR g t i ⟨_, ohandle, okey, ovalue, oexpect⟩ = if (findM g.maps N).isSome ∨ (findW g.walks N).isSome then 8 else 0) := Lib.hid (R0.out)
                clear R0
                go_wp2_with fail
                refine (FI.out _ _ HB6.out).mono ?_
                rintro e w7 ⟨rfl, hb7⟩
                obtain ⟨⟨y0, y1, y2⟩, p0, p1, p2⟩ := KEEP.out _ hb7
                have HB7 := Lib.hid hb7
                clear hb7
                cases hfm : findM g.maps N with
                | some q =>
                  have SR := Lib.hid (RR.out.trans (by rw [hfm]; simp : _ = (8 : Int)))
                  obtain ⟨j7, d7⟩ := q
                  have e7 : idxO (some (j7, d7)) = (j7 : Int) := rfl
                  rw [e7]
                  clear e7 hfm RR
                  have j70 : (0 : Int) ≤ j7 := by omega
                  go_wp2_with fail
                  go_ret
                  exact ⟨ret_int SR.out.symm, B0.out.trans (HB7.out.mono B0.out.size)⟩
                | none =>
                  have SR := Lib.hid (RR.out.trans (by rw [hfm]; simp : _ = if (findW g.walks N).isSome then (8 : Int) else 0))
                  have e7 : idxO (none : Option (Nat × RMap)) = -1 := rfl
                  rw [e7]
                  clear e7 hfm RR
                  go_wp2_with fail
                  refine (WA.out _ _ HB7.out).mono ?_
                  rintro e w8 ⟨rfl, hb8⟩
                  have HB8 := Lib.hid hb8
                  clear hb8
                  cases hfw : findW g.walks N with
                  | some q =>
                    have SS := Lib.hid (SR.out.trans (by rw [hfw]; simp : _ = (8 : Int)))
                    obtain ⟨j8, d8⟩ := q
                    have e8 : idxO (some (j8, d8)) = (j8 : Int) := rfl
                    rw [e8]
                    clear e8 hfw SR
                    have j80 : (0 : Int) ≤ j8 := by omega
                    go_wp2_with fail
                    go_ret
                    exact ⟨ret_int SS.out.symm, B0.out.trans (HB8.out.mono B0.out.size)⟩
                  | none =>
                    have SS := Lib.hid (SR.out.trans (by rw [hfw]; simp : _ = (0 : Int)))
                    have e8 : idxO (none : Option (Nat × IterD)) = -1 := rfl
                    rw [e8]
                    clear e8 hfw SR
                    go_wp2_with fail
                    go_ret
                    exact ⟨ret_int SS.out.symm, B0.out.trans (HB8.out.mono B0.out.size)⟩
              · have kb : keyedB 10 = false := rfl
                have cb : changeB 10 = true := rfl
                cases hro : x.ro with
                | true =>
                  have S0 := Lib.hid (R3.out.trans (if_pos ⟨Or.inr rfl, by rw [show roR (some (k, x)) true = (x.ro == true) from rfl, hro]; rfl⟩))
                  rw [hro] at c1
                  clear R3 hro
                  have RR := Lib.hid (show _ = _ from S0.out)
                  go_wp2_with fail
                  go_ret
                  exact ⟨ret_int RR.out.symm, B0.out.trans (HB6.out.mono B0.out.size)⟩
                | false =>
                  have R0 := Lib.hid (R3.out.trans (by rw [if_neg (by rw [show roR (some (k, x)) true = (x.ro == true) from rfl, hro]; simp), if_neg (by simp)] : _ = if (findM g.maps N).isSome ∨ (findW g.walks N).isSome then (8 : Int) else 0))
                  rw [hro] at c1
                  clear R3 hro
                  have RR : Hid (refusedR g t i ⟨_, ohandle, okey, ovalue, oexpect⟩ = if (findM g.maps N).isSome ∨ (findW g.walks N).isSome then 8 else 0) := Lib.hid (R0.out)
                  clear R0
                  go_wp2_with fail
                  refine (FI.out _ _ HB6.out).mono ?_
                  rintro e w7 ⟨rfl, hb7⟩
                  obtain ⟨⟨y0, y1, y2⟩, p0, p1, p2⟩ := KEEP.out _ hb7
                  have HB7 := Lib.hid hb7
                  clear hb7
                  cases hfm : findM g.maps N with
                  | some q =>
                    have SR := Lib.hid (RR.out.trans (by rw [hfm]; simp : _ = (8 : Int)))
                    obtain ⟨j7, d7⟩ := q
                    have e7 : idxO (some (j7, d7)) = (j7 : Int) := rfl
                    rw [e7]
                    clear e7 hfm RR
                    have j70 : (0 : Int) ≤ j7 := by omega
                    go_wp2_with fail
                    go_ret
                    exact ⟨ret_int SR.out.symm, B0.out.trans (HB7.out.mono B0.out.size)⟩
                  | none =>
                    have SR := Lib.hid (RR.out.trans (by rw [hfm]; simp : _ = if (findW g.walks N).isSome then (8 : Int) else 0))
                    have e7 : idxO (none : Option (Nat × RMap)) = -1 := rfl
                    rw [e7]
                    clear e7 hfm RR
                    go_wp2_with fail
                    refine (WA.out _ _ HB7.out).mono ?_
                    rintro e w8 ⟨rfl, hb8⟩
                    have HB8 := Lib.hid hb8
                    clear hb8
                    cases hfw : findW g.walks N with
                    | some q =>
                      have SS := Lib.hid (SR.out.trans (by rw [hfw]; simp : _ = (8 : Int)))
                      obtain ⟨j8, d8⟩ := q
                      have e8 : idxO (some (j8, d8)) = (j8 : Int) := rfl
                      rw [e8]
                      clear e8 hfw SR
                      have j80 : (0 : Int) ≤ j8 := by omega
                      go_wp2_with fail
                      go_ret
                      exact ⟨ret_int SS.out.symm, B0.out.trans (HB8.out.mono B0.out.size)⟩
                    | none =>
                      have SS := Lib.hid (SR.out.trans (by rw [hfw]; simp : _ = (0 : Int)))
                      have e8 : idxO (none : Option (Nat × IterD)) = -1 := rfl
                      rw [e8]
                      clear e8 hfw SR
                      go_wp2_with fail
                      go_ret
                      exact ⟨ret_int SS.out.symm, B0.out.trans (HB8.out.mono B0.out.size)⟩
              · have kb : keyedB 11 = false := rfl
                have cb : changeB 11 = false := rfl
                cases hro : x.ro with
                | true =>
                  have R0 := Lib.hid (R3.out.trans (by rw [if_neg (by simp), if_neg (by rw [show roR (some (k, x)) false = (x.ro == false) from rfl, hro]; simp)] : _ = if (findM g.maps N).isSome ∨ (findW g.walks N).isSome then (8 : Int) else 0))
                  rw [hro] at c1
                  clear R3 hro
                  have RR : Hid (refusedR g t i ⟨_, ohandle, okey, ovalue, oexpect⟩ = if (findM g.maps N).isSome ∨ (findW g.walks N).isSome then 8 else 0) := Lib.hid (R0.out)
                  clear R0
                  go_wp2_with fail
                  refine (FI.out _ _ HB6.out).mono ?_
                  rintro e w7 ⟨rfl, hb7⟩
                  obtain ⟨⟨y0, y1, y2⟩, p0, p1, p2⟩ := KEEP.out _ hb7
                  have HB7 := Lib.hid hb7
                  clear hb7
                  cases hfm : findM g.maps N with
                  | some q =>
                    have SR := Lib.hid (RR.out.trans (by rw [hfm]; simp : _ = (8 : Int)))
                    obtain ⟨j7, d7⟩ := q
                    have e7 : idxO (some (j7, d7)) = (j7 : Int) := rfl
                    rw [e7]
                    clear e7 hfm RR
                    have j70 : (0 : Int) ≤ j7 := by omega
                    go_wp2_with fail
                    go_ret
                    exact ⟨ret_int SR.out.symm, B0.out.trans (HB7.out.mono B0.out.size)⟩
                  | none =>
                    have SR := Lib.hid (RR.out.trans (by rw [hfm]; simp : _ = if (findW g.walks N).isSome then (8 : Int) else 0))
                    have e7 : idxO (none : Option (Nat × RMap)) = -1 := rfl
                    rw [e7]
                    clear e7 hfm RR
                    go_wp2_with fail
                    refine (WA.out _ _ HB7.out).mono ?_
                    rintro e w8 ⟨rfl, hb8⟩
                    have HB8 := Lib.hid hb8
                    clear hb8
                    cases hfw : findW g.walks N with
                    | some q =>
                      have SS := Lib.hid (SR.out.trans (by rw [hfw]; simp : _ = (8 : Int)))
                      obtain ⟨j8, d8⟩ := q
                      have e8 : idxO (some (j8, d8)) = (j8 : Int) := rfl
                      rw [e8]
                      clear e8 hfw SR
                      have j80 : (0 : Int) ≤ j8 := by omega
                      go_wp2_with fail
                      go_ret
                      exact ⟨ret_int SS.out.symm, B0.out.trans (HB8.out.mono B0.out.size)⟩
                    | none =>
                      have SS := Lib.hid (SR.out.trans (by rw [hfw]; simp : _ = (0 : Int)))
                      have e8 : idxO (none : Option (Nat × IterD)) = -1 := rfl
                      rw [e8]
                      clear e8 hfw SR
                      go_wp2_with fail
                      go_ret
                      exact ⟨ret_int SS.out.symm, B0.out.trans (HB8.out.mono B0.out.size)⟩
                | false =>
                  have S0 := Lib.hid (R3.out.trans (by rw [if_neg (by simp), if_pos ⟨by simp, by rw [show roR (some (k, x)) false = (x.ro == false) from rfl, hro]; rfl⟩] : _ = (7 : Int)))
                  rw [hro] at c1
                  clear R3 hro
                  have RR := Lib.hid (show _ = _ from S0.out)
                  go_wp2_with fail
                  go_ret
                  exact ⟨ret_int RR.out.symm, B0.out.trans (HB6.out.mono B0.out.size)⟩
              · have kb : keyedB 12 = false := rfl
                have cb : changeB 12 = false := rfl
                cases hro : x.ro with
                | true =>
                  have R0 := Lib.hid (R3.out.trans (by rw [if_neg (by simp), if_neg (by rw [show roR (some (k, x)) false = (x.ro == false) from rfl, hro]; simp)] : _ = if (findM g.maps N).isSome ∨ (findW g.walks N).isSome then (8 : Int) else 0))
                  rw [hro] at c1
                  clear R3 hro
                  have RR : Hid (refusedR g t i ⟨_, ohandle, okey, ovalue, oexpect⟩ = if (findM g.maps N).isSome ∨ (findW g.walks N).isSome then 8 else 0) := Lib.hid (R0.out)
                  clear R0
                  go_wp2_with fail
                  refine (FI.out _ _ HB6.out).mono ?_
                  rintro e w7 ⟨rfl, hb7⟩
                  obtain ⟨⟨y0, y1, y2⟩, p0, p1, p2⟩ := KEEP.out _ hb7
                  have HB7 := Lib.hid hb7
                  clear hb7
                  cases hfm : findM g.maps N with
                  | some q =>
                    have SR := Lib.hid (RR.out.trans (by rw [hfm]; simp : _ = (8 : Int)))
                    obtain ⟨j7, d7⟩ := q
                    have e7 : idxO (some (j7, d7)) = (j7 : Int) := rfl
                    rw [e7]
                    clear e7 hfm RR
                    have j70 : (0 : Int) ≤ j7 := by omega
                    go_wp2_with fail
                    go_ret
                    exact ⟨ret_int SR.out.symm, B0.out.trans (HB7.out.mono B0.out.size)⟩
                  | none =>
                    have SR := Lib.hid (RR.out.trans (by rw [hfm]; simp : _ = if (findW g.walks N).isSome then (8 : Int) else 0))
                    have e7 : idxO (none : Option (Nat × RMap)) = -1 := rfl
                    rw [e7]
                    clear e7 hfm RR
                    go_wp2_with fail
                    refine (WA.out _ _ HB7.out).mono ?_
                    rintro e w8 ⟨rfl, hb8⟩
                    have HB8 := Lib.hid hb8
                    clear hb8
                    cases hfw : findW g.walks N with
                    | some q =>
                      have SS := Lib.hid (SR.out.trans (by rw [hfw]; simp : _ = (8 : Int)))
                      obtain ⟨j8, d8⟩ := q
                      have e8 : idxO (some (j8, d8)) = (j8 : Int) := rfl
                      rw [e8]
                      clear e8 hfw SR
                      have j80 : (0 : Int) ≤ j8 := by omega
                      go_wp2_with fail
                      go_ret
                      exact ⟨ret_int SS.out.symm, B0.out.trans (HB8.out.mono B0.out.size)⟩
                    | none =>
                      have SS := Lib.hid (SR.out.trans (by rw [hfw]; simp : _ = (0 : Int)))
                      have e8 : idxO (none : Option (Nat × IterD)) = -1 := rfl
                      rw [e8]
                      clear e8 hfw SR
                      go_wp2_with fail
                      go_ret
                      exact ⟨ret_int SS.out.symm, B0.out.trans (HB8.out.mono B0.out.size)⟩
                | false =>
                  have S0 := Lib.hid (R3.out.trans (by rw [if_neg (by simp), if_pos ⟨by simp, by rw [show roR (some (k, x)) false = (x.ro == false) from rfl, hro]; rfl⟩] : _ = (7 : Int)))
                  rw [hro] at c1
                  clear R3 hro
                  have RR := Lib.hid (show _ = _ from S0.out)
                  go_wp2_with fail
                  go_ret
                  exact ⟨ret_int RR.out.symm, B0.out.trans (HB6.out.mono B0.out.size)⟩
end Go.Proofs.YtbmoehndnbbhcaaGreatDoor
namespace Go.Proofs.YtbmoehndnbbhcaaGreatDoor
set_option linter.unusedVariables false
set_option linter.unusedSimpArgs false
open Go Go.RowKit Go.MapKept
/-- what Apply answers -/
def RApPost (T : Nat → Prop) (w : World) (p : RFam × ResD) (e : Ending) (w' : World) : Prop :=
  ∃ A' c' D' d', e = .returned (.tuple #[rfamV p.1 A' c' D' d', .agg p.2.cells]) ∧ RFamAt (fun b => T b ∨ NewB w w' b) w' A' D' p.1 ∧ Below w.heap.size w w' ∧ (D' = none → d' = 0)
theorem apply_boxes {w W0 W : World} {o0 o1 o2 o3 : Obj} (hs : W0.heap.size = w.heap.size + 1 + 1 + 1 + 1) (h0 : W0.heap[w.heap.size]? = some o0) (h1 : W0.heap[w.heap.size + 1]? = some o1) (h2 : W0.heap[w.heap.size + 1 + 1]? = some o2) (h3 : W0.heap[w.heap.size + 1 + 1 + 1]? = some o3) (hb : Below W0.heap.size W0 W) :
    W.heap[w.heap.size]? = some o0 ∧ W.heap[w.heap.size + 1]? = some o1 ∧ W.heap[w.heap.size + 1 + 1]? = some o2 ∧ W.heap[w.heap.size + 1 + 1 + 1]? = some o3 :=
  ⟨(hb.block _ (by omega)).trans h0, (hb.block _ (by omega)).trans h1, (hb.block _ (by omega)).trans h2, (hb.block _ (by omega)).trans h3⟩
theorem fam_cells {W : World} {k : Nat} {u0 u1 u2 : Value} {T : TypeId} (h : W.heap[k]? = some (.cells #[u0, u1, u2] T (0, 0))) : W.cell? ⟨k, 0, none⟩ = some u0 ∧ W.cell? ⟨k, 1, none⟩ = some u1 ∧ W.cell? ⟨k, 2, none⟩ = some u2 := ⟨blk_cell h 0, blk_cell h 1, blk_cell h 2⟩
theorem op_cells {W : World} {k : Nat} {u0 u1 u2 u3 u4 : Value} {T : TypeId} (h : W.heap[k]? = some (.cells #[u0, u1, u2, u3, u4] T (0, 0))) : W.cell? ⟨k, 0, none⟩ = some u0 ∧ W.cell? ⟨k, 1, none⟩ = some u1 ∧ W.cell? ⟨k, 2, none⟩ = some u2 ∧ W.cell? ⟨k, 3, none⟩ = some u3 ∧ W.cell? ⟨k, 4, none⟩ = some u4 := ⟨blk_cell h 0, blk_cell h 1, blk_cell h 2, blk_cell h 3, blk_cell h 4⟩
theorem fam_free {W : World} {k : Nat} {u0 u1 u2 : Value} {T : TypeId} (h : W.heap[k]? = some (.cells #[u0, u1, u2] T (0, 0))) : W.frozen? ⟨k, 0, none⟩ = false ∧ W.frozen? ⟨k, 1, none⟩ = false ∧ W.frozen? ⟨k, 2, none⟩ = false := ⟨rblk_frozen h 0, rblk_frozen h 1, rblk_frozen h 2⟩
theorem res_cells {W : World} {k : Nat} {u0 u1 u2 u3 u4 u5 u6 u7 : Value} {T : TypeId} (h : W.heap[k]? = some (.cells #[u0, u1, u2, u3, u4, u5, u6, u7] T (0, 0))) : W.cell? ⟨k, 0, none⟩ = some u0 ∧ W.cell? ⟨k, 1, none⟩ = some u1 ∧ W.cell? ⟨k, 2, none⟩ = some u2 ∧ W.cell? ⟨k, 3, none⟩ = some u3 ∧ W.cell? ⟨k, 4, none⟩ = some u4 ∧ W.cell? ⟨k, 5, none⟩ = some u5 ∧ W.cell? ⟨k, 6, none⟩ = some u6 ∧ W.cell? ⟨k, 7, none⟩ = some u7 := ⟨blk_cell h 0, blk_cell h 1, blk_cell h 2, blk_cell h 3, blk_cell h 4, blk_cell h 5, blk_cell h 6, blk_cell h 7⟩
theorem res_free {W : World} {k : Nat} {u0 u1 u2 u3 u4 u5 u6 u7 : Value} {T : TypeId} (h : W.heap[k]? = some (.cells #[u0, u1, u2, u3, u4, u5, u6, u7] T (0, 0))) : W.frozen? ⟨k, 0, none⟩ = false ∧ W.frozen? ⟨k, 1, none⟩ = false ∧ W.frozen? ⟨k, 2, none⟩ = false ∧ W.frozen? ⟨k, 3, none⟩ = false ∧ W.frozen? ⟨k, 4, none⟩ = false ∧ W.frozen? ⟨k, 5, none⟩ = false ∧ W.frozen? ⟨k, 6, none⟩ = false ∧ W.frozen? ⟨k, 7, none⟩ = false := ⟨rblk_frozen h 0, rblk_frozen h 1, rblk_frozen h 2, rblk_frozen h 3, rblk_frozen h 4, rblk_frozen h 5, rblk_frozen h 6, rblk_frozen h 7⟩
theorem rap_same {T : Nat → Prop} {w w' : World} {A D : Option Addr} {c d : Nat} {g : RFam} {r : ResD} {p : RFam × ResD} (hp : p = (g, r)) (h : RFamAt T w A D g) (hb : Below w.heap.size w w') (hd : D = none → d = 0) :
    RApPost T w p (.returned (.tuple #[rfamV g A c D d, .agg r.cells])) w' := by
  subst hp
  exact ⟨A, c, D, d, rfl, (h.below hb).more (fun i hi => Or.inl hi), hb, hd⟩
theorem rap_new {T : Nat → Prop} {w w' : World} {A D : Option Addr} {c d n : Nat} {g : RFam} {r : ResD} {p : RFam × ResD} (hp : p = (g, r)) (h : RFamAt (OldNew T w n) w' A D g) (hn : w.heap.size ≤ n) (hb : Below w.heap.size w w') (hd : D = none → d = 0) :
    RApPost T w p (.returned (.tuple #[rfamV g A c D d, .agg r.cells])) w' := by
  subst hp
  exact ⟨A, c, D, d, rfl, h.done hn, hb, hd⟩
set_option maxRecDepth 100000 in
set_option maxHeartbeats 2000000 in
theorem rapply_ref (T : Nat → Prop) (w : World) (A D : Option Addr) (c d : Nat) (g : RFam) (h : RFamAt T w A D g) (t i : Int) (ht : -9223372036854775808 ≤ t ∧ t ≤ 9223372036854775807) (hi : -9223372036854775808 ≤ i ∧ i ≤ 9223372036854775807) (o : OpD) (hkey : o.key.size ≤ maxLen) (hd0 : D = none → d = 0) (hne : refusedR g t i o ≠ 0) :
    Calls Tryz.prog 29 #[rfamV g A c D d, .int .i64 t, .int .i64 i, o.val] w (RApPost T w (applyR g t i o)) := by
  obtain ⟨okind, ohandle, okey, ovalue, oexpect⟩ := o
  obtain ⟨W0, hW0⟩ : ∃ W0, W0 = keyW w (.cells #[.int .u64 g.mask, .slice A g.maps.length c, .slice D g.walks.length d] 72) (.cells #[.int .i64 okind, .int .i64 ohandle, .string okey, .int .u64 ovalue, .int .u64 oexpect] 60) (.cells #[.int .u64 0, .slice none 0 0, .slice none 0 0] 72) (.cells #[.int .i64 0, .bool false, .int .u64 0, .string ⟨#[]⟩, .int .i64 0, .int .i64 0, .int .i64 0, .bool false] 45) := ⟨_, rfl⟩
  have hb0 : Below w.heap.size w W0 := hW0 ▸ keyW_below _ _ _ _ _
  have hs0 : W0.heap.size = w.heap.size + 1 + 1 + 1 + 1 := hW0 ▸ keyW_size _ _ _ _ _
  have hk0 : W0.heap[w.heap.size]? = some (.cells #[.int .u64 g.mask, .slice A g.maps.length c, .slice D g.walks.length d] 72) := hW0 ▸ keyW_0 _ _ _ _ _
  have hk1 : W0.heap[w.heap.size + 1]? = some (.cells #[.int .i64 okind, .int .i64 ohandle, .string okey, .int .u64 ovalue, .int .u64 oexpect] 60) := hW0 ▸ keyW_1 _ _ _ _ _
  have hk2 : W0.heap[w.heap.size + 1 + 1]? = some (.cells #[.int .u64 0, .slice none 0 0, .slice none 0 0] 72) := hW0 ▸ keyW_2 _ _ _ _ _
  have hk3 : W0.heap[w.heap.size + 1 + 1 + 1]? = some (.cells #[.int .i64 0, .bool false, .int .u64 0, .string ⟨#[]⟩, .int .i64 0, .int .i64 0, .int .i64 0, .bool false] 45) := hW0 ▸ keyW_3 _ _ _ _ _
  have KE := Lib.hid (fun W (hb : Below W0.heap.size W0 W) => apply_boxes hs0 hk0 hk1 hk2 hk3 hb)
  have H0 := h.below hb0
  have FI : Hid (∀ n W, Below W0.heap.size W0 W → Calls Tryz.prog 51 #[.agg #[.int .u64 g.mask, .slice A g.maps.length c, .slice D g.walks.length d], .int .i64 n] W fun e w' => e = .returned (.int .i64 (idxO (findM g.maps n))) ∧ Below W0.heap.size W0 w') := fun n W hb => (find_any T W A D c d g (H0.below hb) n).mono fun e w' p => lift_below hb p
  have NU : Hid (∀ W, Calls Tryz.prog 50 #[.int .i64 t, .int .i64 i] W fun e w' => e = .returned (.int .i64 (numberOf t i)) ∧ W = w') := fun W => refnum_any t i W ht hi
  have RE := Lib.hid (refused_any T W0 A D c d g H0 t i ht hi ⟨okind, ohandle, okey, ovalue, oexpect⟩ hkey)
  have HR := Lib.hid H0
  have HB := Lib.hid (Below.refl W0.heap.size W0)
  have hW1 := hW0
  unfold keyW at hW1
  have HW := Lib.hid hW1
  have B0 := Lib.hid hb0
  have HS := Lib.hid hs0
  have HT := Lib.hid ht
  have HI := Lib.hid hi
  have HM := Lib.hid hkey
  have HH := Lib.hid h
  have HD := Lib.hid hd0
  clear hb0 hs0 hk0 hk1 hk2 hk3 hW0 hW1 H0 h ht hi hkey hd0
  simp only [rfamV, OpD.val] at RE ⊢
  generalize hER : refusedR g t i ⟨okind, ohandle, okey, ovalue, oexpect⟩ = er at *
  have ER := Lib.hid hER
  clear hER
  go_enter Tryz.func29, Tryz.ntmps29
  go_upto_region 1 with fail
  rw [← HW.out]
  obtain ⟨x0, x1, x2, x3⟩ := KE.out _ HB.out
  have y0 := fam_cells x0
  have y1 := op_cells x1
  obtain ⟨y00, y01, y02⟩ := y0
  obtain ⟨y10, y11, y12, y13, y14⟩ := y1
  clear x0 x1 x2 x3
  go_wp2_with fail
  refine RE.out.mono ?_
  rintro e w1 ⟨rfl, hb1⟩
  have B1 := Lib.hid hb1
  clear y00 y01 y02 y10 y11 y12 y13 y14 hb1 RE
  have BW := Lib.hid (B0.out.trans (B1.out.mono B0.out.size))
  obtain ⟨x0, x1, x2, x3⟩ := KE.out _ B1.out
  obtain ⟨y00, y01, y02⟩ := fam_cells x0
  obtain ⟨y10, y11, y12, y13, y14⟩ := op_cells x1
  obtain ⟨r0, r1, r2⟩ := fam_cells x2
  obtain ⟨fr0, fr1, fr2⟩ := fam_free x2
  obtain ⟨t0, t1, t2, t3, t4, t5, t6, t7⟩ := res_cells x3
  obtain ⟨ft0, ft1, ft2, ft3, ft4, ft5, ft6, ft7⟩ := res_free x3
  clear x0 x1 x2 x3
  have n0 : (er != 0) = true := by simpa using hne
  have KK := Lib.hid (show applyR g t i ⟨okind, ohandle, okey, ovalue, oexpect⟩ = (g, { err := er }) by unfold applyR; rw [ER.out, if_pos hne])
  clear hne
  go_wp2_with fail
  try simp only [Exit.inBlock, Exit.then]
  refine bodyPost_ret (v := .tuple #[rfamV g A c D d, .agg ({ err := er } : ResD).cells]) (by simp [results, Tryz.results29, go_sem, rfamV, ResD.cells, r0, r1, r2, t0, t1, t2, t3, t4, t5, t6, t7]) rfl ?_
  refine rap_same KK.out HH.out ?_ HD.out
  repeat' (first | (with_reducible exact BW.out) | (with_reducible apply Below.drew) | (with_reducible apply Below.setCell) | (show _ ≤ _; simp only []; omega))
end Go.Proofs.YtbmoehndnbbhcaaGreatDoor
namespace Go.Proofs.YtbmoehndnbbhcaaGreatDoor
set_option linter.unusedVariables false
set_option linter.unusedSimpArgs false
open Go Go.RowKit Go.MapKept
theorem balZ {a w : World} (h : Below a.heap.size a w) (o : Obj) : Below a.heap.size a (w.alloc o) := h.alloc h.size o
/-- a box of an operation -/
def opBox (a : OpP) : Obj := .cells #[.int .i64 a.1, .int .i64 a.2] 37
theorem opBox_cells {W : World} {b : Nat} {a : OpP} (h : W.heap[b]? = some (opBox a)) : W.cell? ⟨b, 0, none⟩ = some (.int .i64 a.1) ∧ W.cell? ⟨b, 1, none⟩ = some (.int .i64 a.2) := ⟨blk_cell h 0, blk_cell h 1⟩
theorem opBox_kept {W0 W : World} {b : Nat} {a : OpP} (h : W0.heap[b]? = some (opBox a)) (hb : Below W0.heap.size W0 W) : W.heap[b]? = some (opBox a) := (hb.block b (Array.getElem?_eq_some_iff.1 h).1).trans h
theorem before_val (x y : Int) : (decide (0 ≤ x) && decide (x < y)) = true ↔ 0 ≤ x ∧ x < y := by simp
set_option maxRecDepth 100000 in
set_option maxHeartbeats 1000000 in
theorem before_any (w : World) (A : Option Addr) (c : Nat) (l : List EvD) (hl : l.length ≤ 1048576) (h : EvsAt w A l) (a0 a1 b0 b1 : Int) :
    Calls Tryz.prog 27 #[.slice A l.length c, .agg #[.int .i64 a0, .int .i64 a1], .agg #[.int .i64 b0, .int .i64 b1]] w fun e w' => e = .returned (.bool (beforeP l (a0, a1) (b0, b1))) ∧ Below w.heap.size w w' := by
  have H := Lib.hid h
  clear h
  go_enter Tryz.func27, Tryz.ntmps27
  go_wp2_with fail
  obtain ⟨W0, hW0⟩ : ∃ W0, W0 = (w.alloc (.cells #[.int .i64 a0, .int .i64 a1] 37)).alloc (.cells #[.int .i64 b0, .int .i64 b1] 37) := ⟨_, rfl⟩
  have BX : Hid (Below w.heap.size w W0) := by rw [hW0]; exact balZ (balZ (Below.refl _ _) _) _
  have KA : Hid (W0.heap[w.heap.size]? = some (opBox (a0, a1)) ∧ W0.heap[w.heap.size + 1]? = some (opBox (b0, b1))) := by
    rw [hW0]
    have h1 := (heap_alloc (w.alloc (.cells #[.int .i64 a0, .int .i64 a1] 37)) (.cells #[.int .i64 b0, .int .i64 b1] 37)).1
    have z : (w.alloc (.cells #[.int .i64 a0, .int .i64 a1] 37)).heap.size = w.heap.size + 1 := by simp
    rw [z] at h1
    exact ⟨(Below.heap_alloc _ _ _ (by simp)).trans (heap_alloc w _).1, h1⟩
  have KC : Hid (∀ W, Below W0.heap.size W0 W → (W.cell? ⟨w.heap.size, 0, none⟩ = some (.int .i64 a0) ∧ W.cell? ⟨w.heap.size, 1, none⟩ = some (.int .i64 a1)) ∧ W.cell? ⟨w.heap.size + 1, 0, none⟩ = some (.int .i64 b0) ∧ W.cell? ⟨w.heap.size + 1, 1, none⟩ = some (.int .i64 b1)) :=
    fun W hW => ⟨opBox_cells (opBox_kept KA.out.1 hW), opBox_cells (opBox_kept KA.out.2 hW)⟩
  have WH : Hid (∀ (x y : Int) (b : Bool) W, Below W0.heap.size W0 W → Calls Tryz.prog 24 #[.slice A l.length c, .agg #[.int .i64 x, .int .i64 y], .bool b] W fun e w' => e = .returned (.int .i64 (whenP l (x, y) b)) ∧ Below W0.heap.size W0 w') :=
    fun x y b W hW => (when_any W A c l hl ((H.out.below BX.out).below hW) x y b).mono fun e w' p => ⟨p.1, hW.trans (p.2.mono hW.size)⟩
  have B1 : Hid (Below W0.heap.size W0 W0.drew) := (Below.refl _ _).drew
  rw [← hW0]
  clear hW0
  have l1 := when_lo l (a0, a1) true
  have l2 := when_hi l (a0, a1) true
  have l3 := when_lo l (b0, b1) false
  have l4 := when_hi l (b0, b1) false
  have R : Hid (beforeP l (a0, a1) (b0, b1) = (decide (0 ≤ whenP l (a0, a1) true) && decide (whenP l (a0, a1) true < whenP l (b0, b1) false))) := rfl
  generalize hx : whenP l (a0, a1) true = x at *
  generalize hy : whenP l (b0, b1) false = y at *
  have HXY := Lib.hid (And.intro hx hy)
  clear hx hy
  refine wp_region_class (C := fun W => Below W0.heap.size W0 W) (by kernel_rfl) (by kernel_rfl) B1.out ?_
  repeat (first | go_big_quiet_step (fail) | (refine' wpQuiet_take (by kernel_rfl) (fun W hW => ?_) ?_; rotate_left; (obtain ⟨⟨x0, x1⟩, x2, x3⟩ := KC.out W hW); go_simp; (first | rfl | (with_reducible exact WH.out _ _ _ _ hW)); (simp only [Act.put, List.setIfInBounds_toArray, List.set_cons_zero, List.set_cons_succ])))
  refine wpQuiet_nil ?_
  intro w2 hb2
  have B2 := Lib.hid (BX.out.trans (hb2.mono BX.out.size))
  clear hb2
  rw [HXY.out.1, HXY.out.2]
  by_cases h0 : 0 ≤ x
  · by_cases h1 : x < y
    · have R2 := Lib.hid (show beforeP l (a0, a1) (b0, b1) = true by rw [R.out]; simp [h0, h1])
      go_wp2_with fail
      go_ret
      exact ⟨ret_bool R2.out.symm, B2.out⟩
    · have R2 := Lib.hid (show beforeP l (a0, a1) (b0, b1) = false by rw [R.out]; simp [h1])
      go_wp2_with fail
      go_ret
      exact ⟨ret_bool R2.out.symm, B2.out⟩
  · have R2 := Lib.hid (show beforeP l (a0, a1) (b0, b1) = false by rw [R.out]; simp [h0])
    go_wp2_with fail
    go_ret
    exact ⟨ret_bool R2.out.symm, B2.out⟩
theorem below_set {B : Nat} {a b : World} (h : Below B a b) {k j : Nat} {v : Value} (hk : B ≤ k) : Below B a (b.setCell ⟨k, j, none⟩ v) := h.setCell (p := ⟨k, j, none⟩) hk v
/-- what Result hands out -/
def resOut : Option ResF → Value
  | none => .tuple #[resV ResF.zero, .bool false]
  | some r => .tuple #[resV r, .bool true]
theorem ev_res {w : World} {b off k : Nat} {e : EvD} (h : ∀ j v, e.cells[j]? = some v → w.cell? ⟨b, off + k * 11 + j, none⟩ = some v) :
    w.cell? ⟨b, off + k * 11 + 3, none⟩ = some (.int .i64 e.res.err) ∧ w.cell? ⟨b, off + k * 11 + 4, none⟩ = some (.bool e.res.found) ∧ w.cell? ⟨b, off + k * 11 + 5, none⟩ = some (.int .u64 e.res.value) ∧ w.cell? ⟨b, off + k * 11 + 6, none⟩ = some (.string e.res.key) ∧
    w.cell? ⟨b, off + k * 11 + 7, none⟩ = some (.int .i64 e.res.count) ∧ w.cell? ⟨b, off + k * 11 + 8, none⟩ = some (.int .i64 e.res.ref) ∧ w.cell? ⟨b, off + k * 11 + 9, none⟩ = some (.int .i64 e.res.root) ∧ w.cell? ⟨b, off + k * 11 + 10, none⟩ = some (.bool e.res.ro) :=
  ⟨h 3 _ rfl, h 4 _ rfl, h 5 _ rfl, h 6 _ rfl, h 7 _ rfl, h 8 _ rfl, h 9 _ rfl, h 10 _ rfl⟩
set_option maxRecDepth 100000 in
set_option maxHeartbeats 1000000 in
theorem rresult_any (w : World) (A : Option Addr) (c : Nat) (l : List EvD) (hl : l.length ≤ 1048576) (h : EvsAt w A l) (a0 a1 : Int) :
    Calls Tryz.prog 30 #[.slice A l.length c, .agg #[.int .i64 a0, .int .i64 a1]] w fun e w' => e = .returned (resOut (resultP l (a0, a1))) ∧ Below w.heap.size w w' := by
  have H := Lib.hid h
  clear h
  go_enter Tryz.func30, Tryz.ntmps30
  go_upto_region 1 with fail
  obtain ⟨W0, hW0⟩ : ∃ W0, W0 = (w.alloc (.cells #[.int .i64 a0, .int .i64 a1] 37)).alloc (.cells #[.int .i64 0, .bool false, .int .u64 0, .string ⟨#[]⟩, .int .i64 0, .int .i64 0, .int .i64 0, .bool false] 45) := ⟨_, rfl⟩
  have BX : Hid (Below w.heap.size w W0) := by rw [hW0]; exact balZ (balZ (Below.refl _ _) _) _
  have KA : Hid (W0.heap[w.heap.size]? = some (opBox (a0, a1)) ∧ W0.heap[w.heap.size + 1]? = some (.cells #[.int .i64 0, .bool false, .int .u64 0, .string ⟨#[]⟩, .int .i64 0, .int .i64 0, .int .i64 0, .bool false] 45 (0, 0))) := by
    rw [hW0]
    have h1 := (heap_alloc (w.alloc (.cells #[.int .i64 a0, .int .i64 a1] 37)) (.cells #[.int .i64 0, .bool false, .int .u64 0, .string ⟨#[]⟩, .int .i64 0, .int .i64 0, .int .i64 0, .bool false] 45)).1
    have z : (w.alloc (.cells #[.int .i64 a0, .int .i64 a1] 37)).heap.size = w.heap.size + 1 := by simp
    rw [z] at h1
    exact ⟨(Below.heap_alloc _ _ _ (by simp)).trans (heap_alloc w _).1, h1⟩
  rw [← hW0]
  clear hW0
  obtain ⟨y0, y1⟩ := opBox_cells KA.out.1
  go_wp2_with (go_at_call 24; refine stopAt ?_)
  unfold StopAt
  refine (when_any W0 A c l hl (H.out.below BX.out) a0 a1 true).mono ?_
  rintro e w1 ⟨rfl, hb1⟩
  have BW := Lib.hid (BX.out.trans (hb1.mono BX.out.size))
  have hbox := (hb1.block _ (Array.getElem?_eq_some_iff.1 KA.out.2).1).trans KA.out.2
  obtain ⟨x0, x1, x2, x3, x4, x5, x6, x7⟩ := res_cells hbox
  obtain ⟨f0, f1, f2, f3, f4, f5, f6, f7⟩ := res_free hbox
  clear hb1 hbox y0 y1
  rcases when_spec l (a0, a1) true with ⟨hw, _⟩ | ⟨i, e, hi, he, hw, _⟩
  · have R := Lib.hid (result_none.2 hw)
    have HW := Lib.hid hw
    rw [HW.out]
    clear hw
    go_wp2_with fail
    refine bodyPost_ret (v := .tuple #[resV ResF.zero, .bool false]) (by simp [results, Tryz.results30, go_sem, resV, ResF.zero, x0, x1, x2, x3, x4, x5, x6, x7]) rfl ⟨?_, ?_⟩
    · rw [R.out]; rfl
    · repeat (refine below_set ?_ (by omega))
      exact BW.out
  · have R : Hid (resultP l (a0, a1) = some e.res) := by
      unfold resultP
      rw [hw, if_neg (by omega), Int.toNat_natCast, hi]; rfl
    have hlt := (List.getElem?_eq_some_iff.1 hi).1
    obtain ⟨b, off, rfl, hb, hc⟩ := (H.out.below BW.out) (by omega)
    obtain ⟨r0, r1, r2, r3, r4, r5, r6, r7⟩ := ev_res (hc i e hi)
    have hi0 : (0 : Int) ≤ i := by omega
    have hi1 : (i : Int) < l.length := by omega
    have HW := Lib.hid hw
    rw [HW.out]
    clear hw hi he hc
    go_wp2_with fail
    refine bodyPost_ret (v := .tuple #[resV e.res, .bool true]) (by simp [results, Tryz.results30, go_sem, resV, x0, x1, x2, x3, x4, x5, x6, x7]) rfl ⟨?_, ?_⟩
    · rw [R.out]; rfl
    · repeat (refine below_set ?_ (by omega))
      exact BW.out
theorem rresult_none (w : World) (A : Option Addr) (c : Nat) (l : List EvD) (hl : l.length ≤ 1048576) (h : EvsAt w A l) (a0 a1 : Int) (hr : resultP l (a0, a1) = none) :
    Calls Tryz.prog 30 #[.slice A l.length c, .agg #[.int .i64 a0, .int .i64 a1]] w fun e w' => e = .returned (.tuple #[.agg #[.int .i64 0, .bool false, .int .u64 0, .string ⟨#[]⟩, .int .i64 0, .int .i64 0, .int .i64 0, .bool false], .bool false]) ∧ Below w.heap.size w w' :=
  (rresult_any w A c l hl h a0 a1).mono fun e w' p => ⟨by rw [p.1, hr]; rfl, p.2⟩
theorem rresult_some (w : World) (A : Option Addr) (c : Nat) (l : List EvD) (hl : l.length ≤ 1048576) (h : EvsAt w A l) (a0 a1 : Int) (r : ResF) (hr : resultP l (a0, a1) = some r) :
    Calls Tryz.prog 30 #[.slice A l.length c, .agg #[.int .i64 a0, .int .i64 a1]] w fun e w' => e = .returned (.tuple #[.agg #[.int .i64 r.err, .bool r.found, .int .u64 r.value, .string r.key, .int .i64 r.count, .int .i64 r.ref, .int .i64 r.root, .bool r.ro], .bool true]) ∧ Below w.heap.size w w' :=
  (rresult_any w A c l hl h a0 a1).mono fun e w' p => ⟨by rw [p.1, hr]; rfl, p.2⟩
set_option maxRecDepth 100000 in
set_option maxHeartbeats 1000000 in
theorem rrefused_any (w : World) (A : Option Addr) (c : Nat) (l : List EvD) (hl : l.length ≤ 1048576) (h : EvsAt w A l) (a0 a1 : Int) :
    Calls Tryz.prog 46 #[.slice A l.length c, .agg #[.int .i64 a0, .int .i64 a1]] w fun e w' => e = .returned (.bool (refusedP l (a0, a1))) ∧ Below w.heap.size w w' := by
  have H := Lib.hid h
  clear h
  have B0 := Lib.hid (balZ (Below.refl w.heap.size w) (.cells #[.int .i64 a0, .int .i64 a1] 37))
  cases hr : resultP l (a0, a1) with
  | none =>
    have R := Lib.hid (show refusedP l (a0, a1) = false by unfold refusedP; rw [hr])
    have HR := Lib.hid hr
    clear hr
    go_enter Tryz.func46, Tryz.ntmps46
    go_wp2_with (go_at_call 30; (refine (rresult_none _ A c l hl (H.out.below B0.out) a0 a1 HR.out).mono ?_); rintro e w1 ⟨rfl, hb1⟩; (have BW := Lib.hid (B0.out.trans (hb1.mono B0.out.size))); clear hb1)
    go_ret
    exact ⟨ret_bool R.out.symm, balZ BW.out _⟩
  | some r =>
    have HR := Lib.hid hr
    cases h5 : (r.err == 5) with
    | true =>
      have R := Lib.hid (show refusedP l (a0, a1) = true by unfold refusedP; rw [hr]; exact h5)
      clear hr
      go_enter Tryz.func46, Tryz.ntmps46
      go_wp2_with (go_at_call 30; (refine (rresult_some _ A c l hl (H.out.below B0.out) a0 a1 r HR.out).mono ?_); rintro e w1 ⟨rfl, hb1⟩; (have BW := Lib.hid (B0.out.trans (hb1.mono B0.out.size))); clear hb1)
      go_ret
      exact ⟨ret_bool R.out.symm, balZ BW.out _⟩
    | false =>
      have R := Lib.hid (show refusedP l (a0, a1) = false by unfold refusedP; rw [hr]; exact h5)
      clear hr
      go_enter Tryz.func46, Tryz.ntmps46
      go_wp2_with (go_at_call 30; (refine (rresult_some _ A c l hl (H.out.below B0.out) a0 a1 r HR.out).mono ?_); rintro e w1 ⟨rfl, hb1⟩; (have BW := Lib.hid (B0.out.trans (hb1.mono B0.out.size))); clear hb1)
      go_ret
      exact ⟨ret_bool R.out.symm, balZ BW.out _⟩
end Go.Proofs.YtbmoehndnbbhcaaGreatDoor
