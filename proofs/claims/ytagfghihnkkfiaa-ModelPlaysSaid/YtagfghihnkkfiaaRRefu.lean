/- The walk of the reference's refused. -/
import Derived.Test.YtagfghihnkkfiaaRKeyed
import Derived.Deep.Quiet
namespace Go.Proofs.Ytagfghihnkkfiaa
set_option linter.unusedVariables false
set_option linter.unusedSimpArgs false
open Go Go.RowKit Go.MapKept
section
variable {P : Program} {ops : Array Oper} {C : World → Prop} {Q : Act → Prop} {a : Act} {o : Oper} {rest : List Oper}
theorem wp_region_class {id : Nat} {Q : Exit → Act → World → Prop} {a : Act} {w : World} {l : List Oper} (hm : P.follows .mixedOrders = true) (hB : Region.lexB .any l.toArray = true) (hC : C w.drew)
    (h : wpQuiet P l.toArray C (fun a' => ∀ w', C w' → Q .normal a' w') l a) : (Code.region id l.toArray true).wp P Q a w :=
  wp_region_quiet (C := C) hm hB hC (by simpa using h)
theorem wpQuiet_take {v : Value} (hw : Region.wanted o (yielded ops a.tmps) = true) (hy : ∀ w, C w → o.quietAt P a C w v) (h : wpQuiet P ops C Q rest (a.put o.dst v)) : wpQuiet P ops C Q (o :: rest) a :=
  wpQuiet_step fun K hK => by rw [if_pos hw]; exact ⟨v, hy, hK _ h⟩
end
theorem lift_below {w W w' : World} {x y : Ending} (hb : Below w.heap.size w W) (h : x = y ∧ Below W.heap.size W w') : x = y ∧ Below w.heap.size w w' := ⟨h.1, hb.trans (h.2.mono hb.size)⟩
def keyedB (k : Int) : Bool := decide (1 ≤ k) && decide (k ≤ 7)
def changeB (k : Int) : Bool := (decide (1 ≤ k) && decide (k ≤ 6)) || k == 10
/-- the two boxes of the arguments -/
theorem refu_w (w : World) (o0 o1 : Obj) : Below w.heap.size w ((w.alloc o0).alloc o1) ∧ ((w.alloc o0).alloc o1).heap[w.heap.size]? = some o0 ∧ ((w.alloc o0).alloc o1).heap[w.heap.size + 1]? = some o1 ∧ ((w.alloc o0).alloc o1).heap.size = w.heap.size + 1 + 1 := by
  refine ⟨((Below.refl _ _).alloc (Nat.le_refl _) _).alloc (by simp) _, (Below.heap_alloc _ _ _ (by simp)).trans (heap_alloc w _).1, newfam_block w o0 o1, by simp⟩
set_option maxRecDepth 100000 in
set_option maxHeartbeats 2000000 in
theorem refused_any (T : Nat → Prop) (w : World) (A D : Option Addr) (c d : Nat) (g : RFam) (h : RFamAt T w A D g) (t i : Int) (ht : -9223372036854775808 ≤ t ∧ t ≤ 9223372036854775807) (hi : -9223372036854775808 ≤ i ∧ i ≤ 9223372036854775807) (o : OpD) (hkey : o.key.size ≤ maxLen) :
    Calls Try.prog 41 #[rfamV g A c D d, .int .i64 t, .int .i64 i, o.val] w fun e w' => e = .returned (.int .i64 (refusedR g t i o)) ∧ Below w.heap.size w w' := by
  obtain ⟨okind, ohandle, okey, ovalue, oexpect⟩ := o
  simp only at hkey
  obtain ⟨W0, hW0⟩ : ∃ W0, W0 = (w.alloc (.cells #[.int .u64 g.mask, .slice A g.maps.length c, .slice D g.walks.length d] 59)).alloc (.cells #[.int .i64 okind, .int .i64 ohandle, .string okey, .int .u64 ovalue, .int .u64 oexpect] 39) := ⟨_, rfl⟩
  obtain ⟨hb0, hk0, hk1, hs0⟩ := refu_w w (.cells #[.int .u64 g.mask, .slice A g.maps.length c, .slice D g.walks.length d] 59) (.cells #[.int .i64 okind, .int .i64 ohandle, .string okey, .int .u64 ovalue, .int .u64 oexpect] 39)
  rw [← hW0] at hb0 hk0 hk1 hs0
  have H0 := h.below hb0
  have FI : Hid (∀ n W, Below W0.heap.size W0 W → Calls Try.prog 42 #[.agg #[.int .u64 g.mask, .slice A g.maps.length c, .slice D g.walks.length d], .int .i64 n] W fun e w' => e = .returned (.int .i64 (idxO (findM g.maps n))) ∧ Below W0.heap.size W0 w') := fun n W hb => (find_any T W A D c d g (H0.below hb) n).mono fun e w' p => lift_below hb p
  have WA : Hid (∀ n W, Below W0.heap.size W0 W → Calls Try.prog 44 #[.agg #[.int .u64 g.mask, .slice A g.maps.length c, .slice D g.walks.length d], .int .i64 n] W fun e w' => e = .returned (.int .i64 (idxO (findW g.walks n))) ∧ Below W0.heap.size W0 w') := fun n W hb => (walk_any T W A D c d g (H0.below hb) n).mono fun e w' p => lift_below hb p
  have KEEP : Hid (∀ W, Below W0.heap.size W0 W → (W.cell? ⟨w.heap.size, 0, none⟩ = some (.int .u64 g.mask) ∧ W.cell? ⟨w.heap.size, 1, none⟩ = some (.slice A g.maps.length c) ∧ W.cell? ⟨w.heap.size, 2, none⟩ = some (.slice D g.walks.length d)) ∧ (W.cell? ⟨w.heap.size + 1, 0, none⟩ = some (.int .i64 okind) ∧ W.cell? ⟨w.heap.size + 1, 1, none⟩ = some (.int .i64 ohandle) ∧ W.cell? ⟨w.heap.size + 1, 2, none⟩ = some (.string okey))) := fun W hb => by
    have x0 := (hb.block w.heap.size (by omega)).trans hk0
    have x1 := (hb.block (w.heap.size + 1) (by omega)).trans hk1
    exact ⟨⟨blk_cell x0 0, blk_cell x0 1, blk_cell x0 2⟩, ⟨blk_cell x1 0, blk_cell x1 1, blk_cell x1 2⟩⟩
  have HR := Lib.hid H0
  have hlm := h.fit.lm
  have hlw := h.fit.lw
  have HN := Lib.hid (refnum_any t i W0 ht hi)
  have hr := Below.refl W0.heap.size W0
  have HB := Lib.hid hr
  have HW := Lib.hid hW0
  have HK := Lib.hid (valid_ref okey)
  have HM := Lib.hid hkey
  have B0 := Lib.hid hb0
  clear hb0 hk0 hk1 hs0 hW0 H0 h hr ht hi hkey
  simp only [rfamV, OpD.val]
  go_enter Try.func41, Try.ntmps41
  go_upto_region 1 with fail
  rw [← HW.out]
  go_wp2_with fail
  refine HN.out.mono ?_
  rintro e w' ⟨rfl, rfl⟩
  have EN := Lib.hid (show refusedR g t i ⟨okind, ohandle, okey, ovalue, oexpect⟩ = _ from rfl)
  go_upto_region 2 with fail
  obtain ⟨⟨y0, y1, y2⟩, p0, p1, p2⟩ := KEEP.out _ HB.out
  go_cut [10] from 17 to 24 (fun v10 wx => v10 = .bool (keyedB okind) ∧ wx = W0)
  case first =>
    have kinds : okind < 1 ∨ (1 ≤ okind ∧ okind ≤ 7) ∨ 7 < okind := by omega
    rcases kinds with k | k | k
    all_goals
      go_wp2_with fail
      go_meet
      refine ⟨?_, rfl⟩
      simp only [keyedB]
      simp
      omega
  case rest =>
    obtain ⟨rfl, rfl⟩ := hcut
    go_upto_region 3 with fail
    go_cut [11] from 25 to 37 (fun v11 wx => v11 = .bool (changeB okind) ∧ wx = wc)
    case first =>
      have kinds : okind < 1 ∨ (1 ≤ okind ∧ okind ≤ 6) ∨ 6 < okind := by omega
      rcases kinds with k | k | k
      all_goals
        cases hk : (okind == 10)
        all_goals
          go_wp2_with fail
          go_meet
          refine ⟨?_, rfl⟩
          simp only [changeB, hk]
          (simp <;> omega)
    case rest =>
      obtain ⟨rfl, rfl⟩ := hcut
      go_upto_region 4 with fail
      refine wp_region_class (C := fun W => Below wc.heap.size wc W) (by kernel_rfl) (by kernel_rfl) HB.out.drew ?_
      clear y0 y1 y2 p0 p1 p2
      repeat (first | go_big_quiet_step (fail) | (refine' wpQuiet_take (by kernel_rfl) (fun W hW => ?_) ?_; rotate_left; (obtain ⟨⟨y0, y1, y2⟩, p0, p1, p2⟩ := KEEP.out W hW); go_simp; (first | rfl | (with_reducible exact FI.out _ _ hW) | (with_reducible exact WA.out _ _ hW)); (simp only [Act.put, List.setIfInBounds_toArray, List.set_cons_zero, List.set_cons_succ])))
      refine wpQuiet_nil ?_
      intro w6 hb6
      -- TREE
      obtain ⟨⟨y0, y1, y2⟩, p0, p1, p2⟩ := KEEP.out _ hb6
      have HB6 := Lib.hid hb6
      have HR6 := Lib.hid (HR.out.below hb6)
      clear hb6 EN HN
      have UN := Lib.hid (show refusedR g t i ⟨okind, ohandle, okey, ovalue, oexpect⟩ = (if numberOf t i < 0 ∨ okind < 1 ∨ 13 < okind then 1 else if okind = 13 ∧ strangerR (findW g.walks ohandle) t = true then 5 else if okind ≠ 13 ∧ (findM g.maps ohandle).isNone then 5 else if okind ≤ 7 ∧ ¬ (okey.size : Int) ≤ 64 then 1 else if (okind ≤ 6 ∨ okind = 10) ∧ roR (findM g.maps ohandle) true = true then 6 else if (okind = 11 ∨ okind = 12) ∧ roR (findM g.maps ohandle) false = true then 7 else if (findM g.maps (numberOf t i)).isSome ∨ (findW g.walks (numberOf t i)).isSome then 8 else 0) from rfl)
      generalize numberOf t i = N at *
      by_cases hA : N < 0 ∨ okind < 1 ∨ 13 < okind
      · have R1 := Lib.hid (UN.out.trans (if_pos hA))
        clear UN
        by_cases a1 : N < 0
        · clear hA
          have RR := Lib.hid (show _ = _ from R1.out)
          go_wp2_with fail
          go_ret
          exact ⟨ret_int RR.out.symm, B0.out.trans (HB6.out.mono B0.out.size)⟩
        · by_cases a2 : okind < 1
          · clear hA
            have RR := Lib.hid (show _ = _ from R1.out)
            go_wp2_with fail
            go_ret
            exact ⟨ret_int RR.out.symm, B0.out.trans (HB6.out.mono B0.out.size)⟩
          · have a3 : 13 < okind := by omega
            clear hA
            have RR := Lib.hid (show _ = _ from R1.out)
            go_wp2_with fail
            go_ret
            exact ⟨ret_int RR.out.symm, B0.out.trans (HB6.out.mono B0.out.size)⟩
      · have R0 := Lib.hid (UN.out.trans (if_neg hA))
        have a1 : ¬ N < 0 := by omega
        have a2 : ¬ okind < 1 := by omega
        have a3 : ¬ 13 < okind := by omega
        clear hA UN
        by_cases h13 : okind = 13
        · subst h13
          have kb : keyedB 13 = false := rfl
          have cb : changeB 13 = false := rfl
          cases hw : findW g.walks ohandle with
          | none =>
            have e7 : idxO (none : Option (Nat × IterD)) = -1 := rfl
            rw [hw] at R0
            rw [e7]
            clear e7 hw a2 a3
            have RR := Lib.hid (show _ = _ from R0.out.trans (if_pos ⟨rfl, rfl⟩))
            go_wp2_with fail
            go_ret
            exact ⟨ret_int RR.out.symm, B0.out.trans (HB6.out.mono B0.out.size)⟩
          | some q =>
            obtain ⟨j, it⟩ := q
            obtain ⟨m, hm1, hm2⟩ := findW_at hw
            have hj := (List.getElem?_eq_some_iff.1 hm1).1
            obtain ⟨bw, rfl, hT, hz, hc⟩ := HR6.out.walks (by omega)
            obtain ⟨_, c1, _, _⟩ := hc j _ hm1
            simp only at c1
            have e7 : idxO (some (j, it)) = (j : Int) := rfl
            rw [hw] at R0
            rw [e7]
            have j0 : (0 : Int) ≤ j := by omega
            have j1 : (j : Int) < g.walks.length := by omega
            clear e7 hw hm1 hm2 hc hT hz a2 a3
            cases hth : (it.thread != t) with
            | true =>
              have S0 := Lib.hid (R0.out.trans (if_pos ⟨rfl, hth⟩))
              clear R0
              have RR := Lib.hid (show _ = _ from S0.out)
              go_wp2_with fail
              go_ret
              exact ⟨ret_int RR.out.symm, B0.out.trans (HB6.out.mono B0.out.size)⟩
            | false =>
              have RR : Hid (refusedR g t i ⟨_, ohandle, okey, ovalue, oexpect⟩ = if (findM g.maps N).isSome ∨ (findW g.walks N).isSome then 8 else 0) := Lib.hid (R0.out.trans (by rw [if_neg (by rw [show strangerR (some (j, it)) t = (it.thread != t) from rfl, hth]; simp), if_neg (by simp), if_neg (by simp), if_neg (by simp), if_neg (by simp)]))
              clear R0
              go_wp2_with fail
              refine (FI.out _ _ HB6.out).mono ?_
              rintro e w7 ⟨rfl, hb7⟩
              obtain ⟨⟨y0, y1, y2⟩, p0, p1, p2⟩ := KEEP.out _ hb7
              have HB7 := Lib.hid hb7
              clear hb7
              cases hfm : findM g.maps N with
              | some q =>
                have SR := Lib.hid (RR.out.trans (by rw [hfm]; simp : _ = (8 : Int)))
                obtain ⟨j7, d7⟩ := q
                have e7 : idxO (some (j7, d7)) = (j7 : Int) := rfl
                rw [e7]
                clear e7 hfm RR
                have j70 : (0 : Int) ≤ j7 := by omega
                go_wp2_with fail
                go_ret
                exact ⟨ret_int SR.out.symm, B0.out.trans (HB7.out.mono B0.out.size)⟩
              | none =>
                have SR := Lib.hid (RR.out.trans (by rw [hfm]; simp : _ = if (findW g.walks N).isSome then (8 : Int) else 0))
                have e7 : idxO (none : Option (Nat × RMap)) = -1 := rfl
                rw [e7]
                clear e7 hfm RR
                go_wp2_with fail
                refine (WA.out _ _ HB7.out).mono ?_
                rintro e w8 ⟨rfl, hb8⟩
                have HB8 := Lib.hid hb8
                clear hb8
                cases hfw : findW g.walks N with
                | some q =>
                  have SS := Lib.hid (SR.out.trans (by rw [hfw]; simp : _ = (8 : Int)))
                  obtain ⟨j8, d8⟩ := q
                  have e8 : idxO (some (j8, d8)) = (j8 : Int) := rfl
                  rw [e8]
                  clear e8 hfw SR
                  have j80 : (0 : Int) ≤ j8 := by omega
                  go_wp2_with fail
                  go_ret
                  exact ⟨ret_int SS.out.symm, B0.out.trans (HB8.out.mono B0.out.size)⟩
                | none =>
                  have SS := Lib.hid (SR.out.trans (by rw [hfw]; simp : _ = (0 : Int)))
                  have e8 : idxO (none : Option (Nat × IterD)) = -1 := rfl
                  rw [e8]
                  clear e8 hfw SR
                  go_wp2_with fail
                  go_ret
                  exact ⟨ret_int SS.out.symm, B0.out.trans (HB8.out.mono B0.out.size)⟩
        · have k13 : (okind == 13) = false := by simpa using h13
          have k13n : (okind != 13) = true := by simpa using h13
          have R1 := Lib.hid (R0.out.trans (if_neg (fun e => h13 e.1)))
          cases hm : findM g.maps ohandle with
          | none =>
            have e7 : idxO (none : Option (Nat × RMap)) = -1 := rfl
            have S0 := Lib.hid (R1.out.trans (if_pos ⟨h13, by rw [hm]; rfl⟩))
            rw [e7]
            clear e7 hm R0 R1 h13
            have RR := Lib.hid (show _ = _ from S0.out)
            go_wp2_with fail
            go_ret
            exact ⟨ret_int RR.out.symm, B0.out.trans (HB6.out.mono B0.out.size)⟩
          | some q =>
            obtain ⟨k, x⟩ := q
            obtain ⟨hm1, hm2⟩ := findM_at hm
            have hk := (List.getElem?_eq_some_iff.1 hm1).1
            obtain ⟨b, rfl, hT, hz, hc⟩ := HR6.out.maps (by omega)
            obtain ⟨_, _, _, c1, _, _⟩ := hc k _ hm1
            have e7 : idxO (some (k, x)) = (k : Int) := rfl
            have R2 := Lib.hid (R1.out.trans (if_neg (by rw [hm]; simp)))
            rw [hm] at R2
            rw [e7]
            have k0 : (0 : Int) ≤ k := by omega
            have k1 : (k : Int) < g.maps.length := by omega
            clear e7 hm hm1 hm2 hc hT hz R0 R1
            by_cases h7 : okind ≤ 7
            · have kb : keyedB okind = true := by simp only [keyedB]; simp; omega
              cases hv : decide ((okey.size : Int) ≤ 64) with
              | false =>
                have S0 := Lib.hid (R2.out.trans (if_pos ⟨h7, by simpa using hv⟩))
                have HKV := Lib.hid (fun W => hv ▸ HK.out W HM.out)
                clear hv
                clear R2 h13 h7
                have RR := Lib.hid (show _ = _ from S0.out)
                go_wp2_with (go_at_call 56; refine (HKV.out _).mono ?_; rintro e w' ⟨rfl, rfl⟩)
                go_ret
                exact ⟨ret_int RR.out.symm, B0.out.trans (HB6.out.mono B0.out.size)⟩
              | true =>
                have R3 := Lib.hid (R2.out.trans (if_neg (fun e => e.2 (by simpa using hv))))
                have HKV := Lib.hid (fun W => hv ▸ HK.out W HM.out)
                clear hv
                clear R2
                by_cases h6 : okind ≤ 6
                · have cb : changeB okind = true := by simp only [changeB]; simp; omega
                  have k11 : (okind == 11) = false := by simp; omega
                  have k12 : (okind == 12) = false := by simp; omega
                  cases hro : x.ro with
                  | true =>
                    have S0 := Lib.hid (R3.out.trans (if_pos ⟨Or.inl h6, by rw [show roR (some (k, x)) true = (x.ro == true) from rfl, hro]; rfl⟩))
                    rw [hro] at c1
                    clear R3 h13 h7 h6 hro
                    have RR := Lib.hid (show _ = _ from S0.out)
                    go_wp2_with (go_at_call 56; refine (HKV.out _).mono ?_; rintro e w' ⟨rfl, rfl⟩)
                    go_ret
                    exact ⟨ret_int RR.out.symm, B0.out.trans (HB6.out.mono B0.out.size)⟩
                  | false =>
                    have R0 := Lib.hid (R3.out.trans (by rw [if_neg (by rw [show roR (some (k, x)) true = (x.ro == true) from rfl, hro]; simp), if_neg (by omega)] : _ = if (findM g.maps N).isSome ∨ (findW g.walks N).isSome then (8 : Int) else 0))
                    rw [hro] at c1
                    clear R3 h13 h7 h6 hro
                    have RR : Hid (refusedR g t i ⟨_, ohandle, okey, ovalue, oexpect⟩ = if (findM g.maps N).isSome ∨ (findW g.walks N).isSome then 8 else 0) := Lib.hid (R0.out)
                    clear R0
                    go_wp2_with (go_at_call 56; refine (HKV.out _).mono ?_; rintro e w' ⟨rfl, rfl⟩)
                    refine (FI.out _ _ HB6.out).mono ?_
                    rintro e w7 ⟨rfl, hb7⟩
                    obtain ⟨⟨y0, y1, y2⟩, p0, p1, p2⟩ := KEEP.out _ hb7
                    have HB7 := Lib.hid hb7
                    clear hb7
                    cases hfm : findM g.maps N with
                    | some q =>
                      have SR := Lib.hid (RR.out.trans (by rw [hfm]; simp : _ = (8 : Int)))
                      obtain ⟨j7, d7⟩ := q
                      have e7 : idxO (some (j7, d7)) = (j7 : Int) := rfl
                      rw [e7]
                      clear e7 hfm RR
                      have j70 : (0 : Int) ≤ j7 := by omega
                      go_wp2_with fail
                      go_ret
                      exact ⟨ret_int SR.out.symm, B0.out.trans (HB7.out.mono B0.out.size)⟩
                    | none =>
                      have SR := Lib.hid (RR.out.trans (by rw [hfm]; simp : _ = if (findW g.walks N).isSome then (8 : Int) else 0))
                      have e7 : idxO (none : Option (Nat × RMap)) = -1 := rfl
                      rw [e7]
                      clear e7 hfm RR
                      go_wp2_with fail
                      refine (WA.out _ _ HB7.out).mono ?_
                      rintro e w8 ⟨rfl, hb8⟩
                      have HB8 := Lib.hid hb8
                      clear hb8
                      cases hfw : findW g.walks N with
                      | some q =>
                        have SS := Lib.hid (SR.out.trans (by rw [hfw]; simp : _ = (8 : Int)))
                        obtain ⟨j8, d8⟩ := q
                        have e8 : idxO (some (j8, d8)) = (j8 : Int) := rfl
                        rw [e8]
                        clear e8 hfw SR
                        have j80 : (0 : Int) ≤ j8 := by omega
                        go_wp2_with fail
                        go_ret
                        exact ⟨ret_int SS.out.symm, B0.out.trans (HB8.out.mono B0.out.size)⟩
                      | none =>
                        have SS := Lib.hid (SR.out.trans (by rw [hfw]; simp : _ = (0 : Int)))
                        have e8 : idxO (none : Option (Nat × IterD)) = -1 := rfl
                        rw [e8]
                        clear e8 hfw SR
                        go_wp2_with fail
                        go_ret
                        exact ⟨ret_int SS.out.symm, B0.out.trans (HB8.out.mono B0.out.size)⟩
                · obtain rfl : okind = 7 := by omega
                  have cb : changeB 7 = false := rfl
                  have R0 := Lib.hid (R3.out.trans (by rw [if_neg (by simp), if_neg (by simp)] : _ = if (findM g.maps N).isSome ∨ (findW g.walks N).isSome then (8 : Int) else 0))
                  clear R3 h13 h7 h6
                  have RR : Hid (refusedR g t i ⟨_, ohandle, okey, ovalue, oexpect⟩ = if (findM g.maps N).isSome ∨ (findW g.walks N).isSome then 8 else 0) := Lib.hid (R0.out)
                  clear R0
                  go_wp2_with (go_at_call 56; refine (HKV.out _).mono ?_; rintro e w' ⟨rfl, rfl⟩)
                  refine (FI.out _ _ HB6.out).mono ?_
                  rintro e w7 ⟨rfl, hb7⟩
                  obtain ⟨⟨y0, y1, y2⟩, p0, p1, p2⟩ := KEEP.out _ hb7
                  have HB7 := Lib.hid hb7
                  clear hb7
                  cases hfm : findM g.maps N with
                  | some q =>
                    have SR := Lib.hid (RR.out.trans (by rw [hfm]; simp : _ = (8 : Int)))
                    obtain ⟨j7, d7⟩ := q
                    have e7 : idxO (some (j7, d7)) = (j7 : Int) := rfl
                    rw [e7]
                    clear e7 hfm RR
                    have j70 : (0 : Int) ≤ j7 := by omega
                    go_wp2_with fail
                    go_ret
                    exact ⟨ret_int SR.out.symm, B0.out.trans (HB7.out.mono B0.out.size)⟩
                  | none =>
                    have SR := Lib.hid (RR.out.trans (by rw [hfm]; simp : _ = if (findW g.walks N).isSome then (8 : Int) else 0))
                    have e7 : idxO (none : Option (Nat × RMap)) = -1 := rfl
                    rw [e7]
                    clear e7 hfm RR
                    go_wp2_with fail
                    refine (WA.out _ _ HB7.out).mono ?_
                    rintro e w8 ⟨rfl, hb8⟩
                    have HB8 := Lib.hid hb8
                    clear hb8
                    cases hfw : findW g.walks N with
                    | some q =>
                      have SS := Lib.hid (SR.out.trans (by rw [hfw]; simp : _ = (8 : Int)))
                      obtain ⟨j8, d8⟩ := q
                      have e8 : idxO (some (j8, d8)) = (j8 : Int) := rfl
                      rw [e8]
                      clear e8 hfw SR
                      have j80 : (0 : Int) ≤ j8 := by omega
                      go_wp2_with fail
                      go_ret
                      exact ⟨ret_int SS.out.symm, B0.out.trans (HB8.out.mono B0.out.size)⟩
                    | none =>
                      have SS := Lib.hid (SR.out.trans (by rw [hfw]; simp : _ = (0 : Int)))
                      have e8 : idxO (none : Option (Nat × IterD)) = -1 := rfl
                      rw [e8]
                      clear e8 hfw SR
                      go_wp2_with fail
                      go_ret
                      exact ⟨ret_int SS.out.symm, B0.out.trans (HB8.out.mono B0.out.size)⟩
            · have R3 := Lib.hid (R2.out.trans (if_neg (fun e => h7 e.1)))
              have kinds : okind = 8 ∨ okind = 9 ∨ okind = 10 ∨ okind = 11 ∨ okind = 12 := by omega
              clear R2 a2 a3 h7 h13 k13 k13n
              rcases kinds with rfl | rfl | rfl | rfl | rfl
              · have kb : keyedB 8 = false := rfl
                have cb : changeB 8 = false := rfl
                have R0 := Lib.hid (R3.out.trans (by rw [if_neg (by simp), if_neg (by simp)] : _ = if (findM g.maps N).isSome ∨ (findW g.walks N).isSome then (8 : Int) else 0))
                clear R3
                have RR : Hid (refusedR g t i ⟨_, ohandle, okey, ovalue, oexpect⟩ = if (findM g.maps N).isSome ∨ (findW g.walks N).isSome then 8 else 0) := Lib.hid (R0.out)
                clear R0
                go_wp2_with fail
                refine (FI.out _ _ HB6.out).mono ?_
                rintro e w7 ⟨rfl, hb7⟩
                obtain ⟨⟨y0, y1, y2⟩, p0, p1, p2⟩ := KEEP.out _ hb7
                have HB7 := Lib.hid hb7
                clear hb7
                cases hfm : findM g.maps N with
                | some q =>
                  have SR := Lib.hid (RR.out.trans (by rw [hfm]; simp : _ = (8 : Int)))
                  obtain ⟨j7, d7⟩ := q
                  have e7 : idxO (some (j7, d7)) = (j7 : Int) := rfl
                  rw [e7]
                  clear e7 hfm RR
                  have j70 : (0 : Int) ≤ j7 := by omega
                  go_wp2_with fail
                  go_ret
                  exact ⟨ret_int SR.out.symm, B0.out.trans (HB7.out.mono B0.out.size)⟩
                | none =>
                  have SR := Lib.hid (RR.out.trans (by rw [hfm]; simp : _ = if (findW g.walks N).isSome then (8 : Int) else 0))
                  have e7 : idxO (none : Option (Nat × RMap)) = -1 := rfl
                  rw [e7]
                  clear e7 hfm RR
                  go_wp2_with fail
                  refine (WA.out _ _ HB7.out).mono ?_
                  rintro e w8 ⟨rfl, hb8⟩
                  have HB8 := Lib.hid hb8
                  clear hb8
                  cases hfw : findW g.walks N with
                  | some q =>
                    have SS := Lib.hid (SR.out.trans (by rw [hfw]; simp : _ = (8 : Int)))
                    obtain ⟨j8, d8⟩ := q
                    have e8 : idxO (some (j8, d8)) = (j8 : Int) := rfl
                    rw [e8]
                    clear e8 hfw SR
                    have j80 : (0 : Int) ≤ j8 := by omega
                    go_wp2_with fail
                    go_ret
                    exact ⟨ret_int SS.out.symm, B0.out.trans (HB8.out.mono B0.out.size)⟩
                  | none =>
                    have SS := Lib.hid (SR.out.trans (by rw [hfw]; simp : _ = (0 : Int)))
                    have e8 : idxO (none : Option (Nat × IterD)) = -1 := rfl
                    rw [e8]
                    clear e8 hfw SR
                    go_wp2_with fail
                    go_ret
                    exact ⟨ret_int SS.out.symm, B0.out.trans (HB8.out.mono B0.out.size)⟩
              · have kb : keyedB 9 = false := rfl
                have cb : changeB 9 = false := rfl
                have R0 := Lib.hid (R3.out.trans (by rw [if_neg (by simp), if_neg (by simp)] : _ = if (findM g.maps N).isSome ∨ (findW g.walks N).isSome then (8 : Int) else 0))
                clear R3
                have RR : Hid (refusedR g t i ⟨_, ohandle, okey, ovalue, oexpect⟩ = if (findM g.maps N).isSome ∨ (findW g.walks N).isSome then 8 else 0) := Lib.hid (R0.out)
                clear R0
                go_wp2_with fail
                refine (FI.out _ _ HB6.out).mono ?_
                rintro e w7 ⟨rfl, hb7⟩
                obtain ⟨⟨y0, y1, y2⟩, p0, p1, p2⟩ := KEEP.out _ hb7
                have HB7 := Lib.hid hb7
                clear hb7
                cases hfm : findM g.maps N with
                | some q =>
                  have SR := Lib.hid (RR.out.trans (by rw [hfm]; simp : _ = (8 : Int)))
                  obtain ⟨j7, d7⟩ := q
                  have e7 : idxO (some (j7, d7)) = (j7 : Int) := rfl
                  rw [e7]
                  clear e7 hfm RR
                  have j70 : (0 : Int) ≤ j7 := by omega
                  go_wp2_with fail
                  go_ret
                  exact ⟨ret_int SR.out.symm, B0.out.trans (HB7.out.mono B0.out.size)⟩
                | none =>
                  have SR := Lib.hid (RR.out.trans (by rw [hfm]; simp : _ = if (findW g.walks N).isSome then (8 : Int) else 0))
                  have e7 : idxO (none : Option (Nat × RMap)) = -1 := rfl
                  rw [e7]
                  clear e7 hfm RR
                  go_wp2_with fail
                  refine (WA.out _ _ HB7.out).mono ?_
                  rintro e w8 ⟨rfl, hb8⟩
                  have HB8 := Lib.hid hb8
                  clear hb8
                  cases hfw : findW g.walks N with
                  | some q =>
                    have SS := Lib.hid (SR.out.trans (by rw [hfw]; simp : _ = (8 : Int)))
                    obtain ⟨j8, d8⟩ := q
                    have e8 : idxO (some (j8, d8)) = (j8 : Int) := rfl
                    rw [e8]
                    clear e8 hfw SR
                    have j80 : (0 : Int) ≤ j8 := by omega
                    go_wp2_with fail
                    go_ret
                    exact ⟨ret_int SS.out.symm, B0.out.trans (HB8.out.mono B0.out.size)⟩
                  | none =>
                    have SS := Lib.hid (SR.out.trans (by rw [hfw]; simp : _ = (0 : Int)))
                    have e8 : idxO (none : Option (Nat × IterD)) = -1 := rfl
                    rw [e8]
                    clear e8 hfw SR
                    go_wp2_with fail
                    go_ret
                    exact ⟨ret_int SS.out.symm, B0.out.trans (HB8.out.mono B0.out.size)⟩
              · have kb : keyedB 10 = false := rfl
                have cb : changeB 10 = true := rfl
                cases hro : x.ro with
                | true =>
                  have S0 := Lib.hid (R3.out.trans (if_pos ⟨Or.inr rfl, by rw [show roR (some (k, x)) true = (x.ro == true) from rfl, hro]; rfl⟩))
                  rw [hro] at c1
                  clear R3 hro
                  have RR := Lib.hid (show _ = _ from S0.out)
                  go_wp2_with fail
                  go_ret
                  exact ⟨ret_int RR.out.symm, B0.out.trans (HB6.out.mono B0.out.size)⟩
                | false =>
                  have R0 := Lib.hid (R3.out.trans (by rw [if_neg (by rw [show roR (some (k, x)) true = (x.ro == true) from rfl, hro]; simp), if_neg (by simp)] : _ = if (findM g.maps N).isSome ∨ (findW g.walks N).isSome then (8 : Int) else 0))
                  rw [hro] at c1
                  clear R3 hro
                  have RR : Hid (refusedR g t i ⟨_, ohandle, okey, ovalue, oexpect⟩ = if (findM g.maps N).isSome ∨ (findW g.walks N).isSome then 8 else 0) := Lib.hid (R0.out)
                  clear R0
                  go_wp2_with fail
                  refine (FI.out _ _ HB6.out).mono ?_
                  rintro e w7 ⟨rfl, hb7⟩
                  obtain ⟨⟨y0, y1, y2⟩, p0, p1, p2⟩ := KEEP.out _ hb7
                  have HB7 := Lib.hid hb7
                  clear hb7
                  cases hfm : findM g.maps N with
                  | some q =>
                    have SR := Lib.hid (RR.out.trans (by rw [hfm]; simp : _ = (8 : Int)))
                    obtain ⟨j7, d7⟩ := q
                    have e7 : idxO (some (j7, d7)) = (j7 : Int) := rfl
                    rw [e7]
                    clear e7 hfm RR
                    have j70 : (0 : Int) ≤ j7 := by omega
                    go_wp2_with fail
                    go_ret
                    exact ⟨ret_int SR.out.symm, B0.out.trans (HB7.out.mono B0.out.size)⟩
                  | none =>
                    have SR := Lib.hid (RR.out.trans (by rw [hfm]; simp : _ = if (findW g.walks N).isSome then (8 : Int) else 0))
                    have e7 : idxO (none : Option (Nat × RMap)) = -1 := rfl
                    rw [e7]
                    clear e7 hfm RR
                    go_wp2_with fail
                    refine (WA.out _ _ HB7.out).mono ?_
                    rintro e w8 ⟨rfl, hb8⟩
                    have HB8 := Lib.hid hb8
                    clear hb8
                    cases hfw : findW g.walks N with
                    | some q =>
                      have SS := Lib.hid (SR.out.trans (by rw [hfw]; simp : _ = (8 : Int)))
                      obtain ⟨j8, d8⟩ := q
                      have e8 : idxO (some (j8, d8)) = (j8 : Int) := rfl
                      rw [e8]
                      clear e8 hfw SR
                      have j80 : (0 : Int) ≤ j8 := by omega
                      go_wp2_with fail
                      go_ret
                      exact ⟨ret_int SS.out.symm, B0.out.trans (HB8.out.mono B0.out.size)⟩
                    | none =>
                      have SS := Lib.hid (SR.out.trans (by rw [hfw]; simp : _ = (0 : Int)))
                      have e8 : idxO (none : Option (Nat × IterD)) = -1 := rfl
                      rw [e8]
                      clear e8 hfw SR
                      go_wp2_with fail
                      go_ret
                      exact ⟨ret_int SS.out.symm, B0.out.trans (HB8.out.mono B0.out.size)⟩
              · have kb : keyedB 11 = false := rfl
                have cb : changeB 11 = false := rfl
                cases hro : x.ro with
                | true =>
                  have R0 := Lib.hid (R3.out.trans (by rw [if_neg (by simp), if_neg (by rw [show roR (some (k, x)) false = (x.ro == false) from rfl, hro]; simp)] : _ = if (findM g.maps N).isSome ∨ (findW g.walks N).isSome then (8 : Int) else 0))
                  rw [hro] at c1
                  clear R3 hro
                  have RR : Hid (refusedR g t i ⟨_, ohandle, okey, ovalue, oexpect⟩ = if (findM g.maps N).isSome ∨ (findW g.walks N).isSome then 8 else 0) := Lib.hid (R0.out)
                  clear R0
                  go_wp2_with fail
                  refine (FI.out _ _ HB6.out).mono ?_
                  rintro e w7 ⟨rfl, hb7⟩
                  obtain ⟨⟨y0, y1, y2⟩, p0, p1, p2⟩ := KEEP.out _ hb7
                  have HB7 := Lib.hid hb7
                  clear hb7
                  cases hfm : findM g.maps N with
                  | some q =>
                    have SR := Lib.hid (RR.out.trans (by rw [hfm]; simp : _ = (8 : Int)))
                    obtain ⟨j7, d7⟩ := q
                    have e7 : idxO (some (j7, d7)) = (j7 : Int) := rfl
                    rw [e7]
                    clear e7 hfm RR
                    have j70 : (0 : Int) ≤ j7 := by omega
                    go_wp2_with fail
                    go_ret
                    exact ⟨ret_int SR.out.symm, B0.out.trans (HB7.out.mono B0.out.size)⟩
                  | none =>
                    have SR := Lib.hid (RR.out.trans (by rw [hfm]; simp : _ = if (findW g.walks N).isSome then (8 : Int) else 0))
                    have e7 : idxO (none : Option (Nat × RMap)) = -1 := rfl
                    rw [e7]
                    clear e7 hfm RR
                    go_wp2_with fail
                    refine (WA.out _ _ HB7.out).mono ?_
                    rintro e w8 ⟨rfl, hb8⟩
                    have HB8 := Lib.hid hb8
                    clear hb8
                    cases hfw : findW g.walks N with
                    | some q =>
                      have SS := Lib.hid (SR.out.trans (by rw [hfw]; simp : _ = (8 : Int)))
                      obtain ⟨j8, d8⟩ := q
                      have e8 : idxO (some (j8, d8)) = (j8 : Int) := rfl
                      rw [e8]
                      clear e8 hfw SR
                      have j80 : (0 : Int) ≤ j8 := by omega
                      go_wp2_with fail
                      go_ret
                      exact ⟨ret_int SS.out.symm, B0.out.trans (HB8.out.mono B0.out.size)⟩
                    | none =>
                      have SS := Lib.hid (SR.out.trans (by rw [hfw]; simp : _ = (0 : Int)))
                      have e8 : idxO (none : Option (Nat × IterD)) = -1 := rfl
                      rw [e8]
                      clear e8 hfw SR
                      go_wp2_with fail
                      go_ret
                      exact ⟨ret_int SS.out.symm, B0.out.trans (HB8.out.mono B0.out.size)⟩
                | false =>
                  have S0 := Lib.hid (R3.out.trans (by rw [if_neg (by simp), if_pos ⟨by simp, by rw [show roR (some (k, x)) false = (x.ro == false) from rfl, hro]; rfl⟩] : _ = (7 : Int)))
                  rw [hro] at c1
                  clear R3 hro
                  have RR := Lib.hid (show _ = _ from S0.out)
                  go_wp2_with fail
                  go_ret
                  exact ⟨ret_int RR.out.symm, B0.out.trans (HB6.out.mono B0.out.size)⟩
              · have kb : keyedB 12 = false := rfl
                have cb : changeB 12 = false := rfl
                cases hro : x.ro with
                | true =>
                  have R0 := Lib.hid (R3.out.trans (by rw [if_neg (by simp), if_neg (by rw [show roR (some (k, x)) false = (x.ro == false) from rfl, hro]; simp)] : _ = if (findM g.maps N).isSome ∨ (findW g.walks N).isSome then (8 : Int) else 0))
                  rw [hro] at c1
                  clear R3 hro
                  have RR : Hid (refusedR g t i ⟨_, ohandle, okey, ovalue, oexpect⟩ = if (findM g.maps N).isSome ∨ (findW g.walks N).isSome then 8 else 0) := Lib.hid (R0.out)
                  clear R0
                  go_wp2_with fail
                  refine (FI.out _ _ HB6.out).mono ?_
                  rintro e w7 ⟨rfl, hb7⟩
                  obtain ⟨⟨y0, y1, y2⟩, p0, p1, p2⟩ := KEEP.out _ hb7
                  have HB7 := Lib.hid hb7
                  clear hb7
                  cases hfm : findM g.maps N with
                  | some q =>
                    have SR := Lib.hid (RR.out.trans (by rw [hfm]; simp : _ = (8 : Int)))
                    obtain ⟨j7, d7⟩ := q
                    have e7 : idxO (some (j7, d7)) = (j7 : Int) := rfl
                    rw [e7]
                    clear e7 hfm RR
                    have j70 : (0 : Int) ≤ j7 := by omega
                    go_wp2_with fail
                    go_ret
                    exact ⟨ret_int SR.out.symm, B0.out.trans (HB7.out.mono B0.out.size)⟩
                  | none =>
                    have SR := Lib.hid (RR.out.trans (by rw [hfm]; simp : _ = if (findW g.walks N).isSome then (8 : Int) else 0))
                    have e7 : idxO (none : Option (Nat × RMap)) = -1 := rfl
                    rw [e7]
                    clear e7 hfm RR
                    go_wp2_with fail
                    refine (WA.out _ _ HB7.out).mono ?_
                    rintro e w8 ⟨rfl, hb8⟩
                    have HB8 := Lib.hid hb8
                    clear hb8
                    cases hfw : findW g.walks N with
                    | some q =>
                      have SS := Lib.hid (SR.out.trans (by rw [hfw]; simp : _ = (8 : Int)))
                      obtain ⟨j8, d8⟩ := q
                      have e8 : idxO (some (j8, d8)) = (j8 : Int) := rfl
                      rw [e8]
                      clear e8 hfw SR
                      have j80 : (0 : Int) ≤ j8 := by omega
                      go_wp2_with fail
                      go_ret
                      exact ⟨ret_int SS.out.symm, B0.out.trans (HB8.out.mono B0.out.size)⟩
                    | none =>
                      have SS := Lib.hid (SR.out.trans (by rw [hfw]; simp : _ = (0 : Int)))
                      have e8 : idxO (none : Option (Nat × IterD)) = -1 := rfl
                      rw [e8]
                      clear e8 hfw SR
                      go_wp2_with fail
                      go_ret
                      exact ⟨ret_int SS.out.symm, B0.out.trans (HB8.out.mono B0.out.size)⟩
                | false =>
                  have S0 := Lib.hid (R3.out.trans (by rw [if_neg (by simp), if_pos ⟨by simp, by rw [show roR (some (k, x)) false = (x.ro == false) from rfl, hro]; rfl⟩] : _ = (7 : Int)))
                  rw [hro] at c1
                  clear R3 hro
                  have RR := Lib.hid (show _ = _ from S0.out)
                  go_wp2_with fail
                  go_ret
                  exact ⟨ret_int RR.out.symm, B0.out.trans (HB6.out.mono B0.out.size)⟩
end Go.Proofs.Ytagfghihnkkfiaa
