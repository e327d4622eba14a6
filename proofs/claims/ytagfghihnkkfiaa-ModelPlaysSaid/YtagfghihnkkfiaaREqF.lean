/- The walk of the reference's Equal of families. -/
import Derived.Test.YtagfghihnkkfiaaRApA
import Derived.Deep.RegionHeld3
namespace Go.Proofs.Ytagfghihnkkfiaa
set_option linter.unusedVariables false
set_option linter.unusedSimpArgs false
open Go Go.RowKit Go.MapKept
def EqRelM (W0 : World) (g h : RFam) (v : Value) (wr : World) : Prop := ∃ j : Nat, j ≤ g.maps.length ∧ v = .int .i64 j ∧ (∀ k x, k < j → g.maps[k]? = some x → mapEqR h x = true) ∧ Below W0.heap.size W0 wr
def EqRelW (W0 : World) (g h : RFam) (v : Value) (wr : World) : Prop := ∃ j : Nat, j ≤ g.walks.length ∧ v = .int .i64 j ∧ (∀ k x, k < j → g.walks[k]? = some x → walkEqR h x = true) ∧ Below W0.heap.size W0 wr
theorem all_at {α : Type} {l : List α} {p : α → Bool} (h : ∀ k x, k < l.length → l[k]? = some x → p x = true) : l.all p = true := by
  rw [List.all_eq_true]
  intro x hx
  obtain ⟨k, hk, e⟩ := List.getElem_of_mem hx
  exact h k x hk (by rw [List.getElem?_eq_getElem hk, e])
theorem all_no {α : Type} {l : List α} {p : α → Bool} {k : Nat} {x : α} (hx : l[k]? = some x) (h : p x = false) : l.all p = false := by
  rw [List.all_eq_false]
  exact ⟨x, List.mem_of_getElem? hx, by rw [h]; simp⟩
section
variable {P : Program} {ops : Array Oper} {C : World → Prop} {Q : Act → Prop} {a : Act} {o : Oper} {rest : List Oper}
theorem wpQuiet_skip (hw : Region.wanted o (yielded ops a.tmps) = false) (h : wpQuiet P ops C Q rest (a.put o.dst undef)) : wpQuiet P ops C Q (o :: rest) a :=
  wpQuiet_step fun K hK => by rw [if_neg (by rw [hw]; simp)]; exact hK _ h
end
set_option maxRecDepth 100000 in
set_option maxHeartbeats 8000000 in
theorem reqf_any (T T' : Nat → Prop) (w : World) (A D A' D' : Option Addr) (c d c' d' : Nat) (g h : RFam) (hg : RFamAt T w A D g) (hh : RFamAt T' w A' D' h) :
    Calls Try.prog 27 #[rfamV g A c D d, rfamV h A' c' D' d'] w fun e w' => e = .returned (.bool (eqR g h)) ∧ Below w.heap.size w w' := by
  obtain ⟨W0, hW0⟩ : ∃ W0, W0 = (w.alloc (.cells #[.int .u64 g.mask, .slice A g.maps.length c, .slice D g.walks.length d] 59)).alloc (.cells #[.int .u64 h.mask, .slice A' h.maps.length c', .slice D' h.walks.length d'] 59) := ⟨_, rfl⟩
  obtain ⟨hb0, hk0, hk1, hs0⟩ := refu_w w (.cells #[.int .u64 g.mask, .slice A g.maps.length c, .slice D g.walks.length d] 59) (.cells #[.int .u64 h.mask, .slice A' h.maps.length c', .slice D' h.walks.length d'] 59)
  rw [← hW0] at hb0 hk0 hk1 hs0
  have G0 := Lib.hid (hg.below hb0)
  have H0 := Lib.hid (hh.below hb0)
  have KE : Hid (∀ W, Below W0.heap.size W0 W → (W.cell? ⟨w.heap.size, 0, none⟩ = some (.int .u64 g.mask) ∧ W.cell? ⟨w.heap.size, 1, none⟩ = some (.slice A g.maps.length c) ∧ W.cell? ⟨w.heap.size, 2, none⟩ = some (.slice D g.walks.length d)) ∧ (W.cell? ⟨w.heap.size + 1, 0, none⟩ = some (.int .u64 h.mask) ∧ W.cell? ⟨w.heap.size + 1, 1, none⟩ = some (.slice A' h.maps.length c') ∧ W.cell? ⟨w.heap.size + 1, 2, none⟩ = some (.slice D' h.walks.length d'))) := fun W hb =>
    ⟨fam_cells ((hb.block _ (by omega)).trans hk0), fam_cells ((hb.block _ (by omega)).trans hk1)⟩
  have FI : Hid (∀ n W, Below W0.heap.size W0 W → Calls Try.prog 42 #[.agg #[.int .u64 h.mask, .slice A' h.maps.length c', .slice D' h.walks.length d'], .int .i64 n] W fun e w' => e = .returned (.int .i64 (idxO (findM h.maps n))) ∧ Below W0.heap.size W0 w') := fun n W hb => (find_any T' W A' D' c' d' h (H0.out.below hb) n).mono fun e w' p => lift_below hb p
  have WA : Hid (∀ n W, Below W0.heap.size W0 W → Calls Try.prog 44 #[.agg #[.int .u64 h.mask, .slice A' h.maps.length c', .slice D' h.walks.length d'], .int .i64 n] W fun e w' => e = .returned (.int .i64 (idxO (findW h.walks n))) ∧ Below W0.heap.size W0 w') := fun n W hb => (walk_any T' W A' D' c' d' h (H0.out.below hb) n).mono fun e w' p => lift_below hb p
  have hr := Below.refl W0.heap.size W0
  have HB := Lib.hid hr
  have HW := Lib.hid hW0
  have B0 := Lib.hid hb0
  have hlm := hg.fit.lm
  have hlw := hg.fit.lw
  have hlm' := hh.fit.lm
  have hlw' := hh.fit.lw
  clear hb0 hk0 hk1 hs0 hW0 hr hg hh
  have UE := Lib.hid (show eqR g h = (g.mask == h.mask && (g.maps.length == h.maps.length && (g.walks.length == h.walks.length && (g.maps.all (mapEqR h) && g.walks.all (walkEqR h))))) from rfl)
  simp only [rfamV]
  go_enter Try.func27, Try.ntmps27
  go_upto_region 1 with fail
  rw [← HW.out]
  obtain ⟨⟨y0, y1, y2⟩, z0, z1, z2⟩ := KE.out _ HB.out
  cases em : (g.mask == h.mask) with
  | false =>
    have R := Lib.hid (UE.out.trans (by rw [em]; try rfl : _ = false))
    have em' : (g.mask != h.mask) = true := by simp [bne, em]
    clear em
    go_wp2_with fail
    go_ret
    exact ⟨ret_bool R.out.symm, B0.out⟩
  | true =>
  have em' : (g.mask != h.mask) = false := by simp [bne, em]
  by_cases el : g.maps.length = h.maps.length
  case neg =>
    have R := Lib.hid (UE.out.trans (by rw [em, show (g.maps.length == h.maps.length) = false by simpa using el]; try rfl : _ = false))
    have el' : ((g.maps.length : Int) != (h.maps.length : Int)) = true := by simp; omega
    clear em el
    go_wp2_with fail
    go_ret
    exact ⟨ret_bool R.out.symm, B0.out⟩
  have el' : ((g.maps.length : Int) != (h.maps.length : Int)) = false := by simp; omega
  by_cases ew : g.walks.length = h.walks.length
  case neg =>
    have R := Lib.hid (UE.out.trans (by rw [em, show (g.maps.length == h.maps.length) = true by simpa using el, show (g.walks.length == h.walks.length) = false by simpa using ew]; try rfl : _ = false))
    have ew' : ((g.walks.length : Int) != (h.walks.length : Int)) = true := by simp; omega
    clear em el ew
    go_wp2_with fail
    go_ret
    exact ⟨ret_bool R.out.symm, B0.out⟩
  have ew' : ((g.walks.length : Int) != (h.walks.length : Int)) = false := by simp; omega
  have R0 := Lib.hid (UE.out.trans (by rw [em, show (g.maps.length == h.maps.length) = true by simpa using el, show (g.walks.length == h.walks.length) = true by simpa using ew]; rfl : _ = (g.maps.all (mapEqR h) && g.walks.all (walkEqR h))))
  clear UE em
  go_wp2_with fail
  clear y0 y1 y2 z0 z1 z2 em' el' ew' el ew
  go_loopw [5] (fun i wr => EqRelM W0 g h i wr) (fun i _ => g.maps.length - (intOf i).toNat)
  case atStart => exact ⟨0, by omega, rfl, fun k x hk => by omega, HB.out⟩
  case round =>
    obtain ⟨j, hj, rfl, hall, hb⟩ := hrel
    have AL := Lib.hid hall
    have BR := Lib.hid hb
    clear hall hb
    obtain ⟨⟨y0, y1, y2⟩, z0, z1, z2⟩ := KE.out _ BR.out
    by_cases hlt : j < g.maps.length
    · obtain ⟨x, hx⟩ : ∃ x, g.maps[j]? = some x := ⟨_, List.getElem?_eq_getElem hlt⟩
      obtain ⟨b, rfl, hT, hbz, hc⟩ := G0.out.maps (by omega)
      obtain ⟨u, cu, c0, c1, c2, hp⟩ := hc j x hx
      have XC : Hid (∀ W, Below W0.heap.size W0 W → W.cell? ⟨b, j * 3, none⟩ = some (.int .i64 x.num) ∧ W.cell? ⟨b, j * 3 + 1, none⟩ = some (.bool x.ro) ∧ W.cell? ⟨b, j * 3 + 2, none⟩ = some (.slice u x.pairs.length cu)) := fun W hb => ⟨(hb.cell (p := ⟨b, _, none⟩) hbz).trans c0, (hb.cell (p := ⟨b, _, none⟩) hbz).trans c1, (hb.cell (p := ⟨b, _, none⟩) hbz).trans c2⟩
      have PX := Lib.hid hp
      have HX := Lib.hid hx
      have hj0 : (0 : Int) ≤ j := by omega
      have hj1 : (j : Int) < g.maps.length := by omega
      have hxl := G0.out.fit.lp x (List.mem_of_getElem? hx)
      clear c0 c1 c2 hp hx hc hT
      go_upto_region 6 with fail
      clear y0 y1 y2 z0 z1 z2
      refine wp_region_class (C := fun W => Below W0.heap.size W0 W) (by kernel_rfl) (by kernel_rfl) BR.out.drew ?_
      repeat (first | go_big_quiet_step (fail) | (refine' wpQuiet_take (by rfl) (fun W hW => ?_) ?_; rotate_left; (obtain ⟨⟨y0, y1, y2⟩, z0, z1, z2⟩ := KE.out W hW); (obtain ⟨x0, x1, x2⟩ := XC.out W hW); go_simp; (first | rfl | (with_reducible exact FI.out _ _ hW)); (simp only [Act.put, List.setIfInBounds_toArray, List.set_cons_zero, List.set_cons_succ])) | ((refine wpQuiet_skip (by rfl) ?_); (simp only [Act.put, List.setIfInBounds_toArray, List.set_cons_zero, List.set_cons_succ])))
      refine wpQuiet_nil ?_
      intro w6 hb6
      have B6 := Lib.hid hb6
      clear hb6
      go_upto_region 7 with fail
      cases hfm : findM h.maps x.num with
      | none =>
        have R := Lib.hid (R0.out.trans (by rw [all_no HX.out (by unfold mapEqR; rw [hfm])]; try rfl : _ = false))
        rw [show idxO (none : Option (Nat × RMap)) = -1 from rfl]
        clear hfm
        refine wp_region_class (C := fun W => Below W0.heap.size W0 W) (by kernel_rfl) (by kernel_rfl) B6.out.drew ?_
        repeat (first | go_big_quiet_step (fail) | (refine' wpQuiet_take (by rfl) (fun W hW => ?_) ?_; rotate_left; (obtain ⟨⟨y0, y1, y2⟩, z0, z1, z2⟩ := KE.out W hW); (obtain ⟨x0, x1, x2⟩ := XC.out W hW);  go_simp; (first | rfl); (simp only [Act.put, List.setIfInBounds_toArray, List.set_cons_zero, List.set_cons_succ])) | ((refine wpQuiet_skip (by rfl) ?_); (simp only [Act.put, List.setIfInBounds_toArray, List.set_cons_zero, List.set_cons_succ])))
        refine wpQuiet_nil ?_
        intro w7 hb7
        have B7 := Lib.hid hb7
        clear hb7
        go_wp2_with fail
        go_ret
        exact ⟨ret_bool R.out.symm, B0.out.trans (B7.out.mono B0.out.size)⟩
      | some q =>
        obtain ⟨k, y⟩ := q
        obtain ⟨hm1, hm2⟩ := findM_at hfm
        have hk := (List.getElem?_eq_some_iff.1 hm1).1
        obtain ⟨b', rfl, hT', hbz', hc'⟩ := H0.out.maps (by omega)
        obtain ⟨u', cu', d0, d1, d2, hp'⟩ := hc' k y hm1
        have YC : Hid (∀ W, Below W0.heap.size W0 W → W.cell? ⟨b', k * 3 + 1, none⟩ = some (.bool y.ro) ∧ W.cell? ⟨b', k * 3 + 2, none⟩ = some (.slice u' y.pairs.length cu')) := fun W hb => ⟨(hb.cell (p := ⟨b', _, none⟩) hbz').trans d1, (hb.cell (p := ⟨b', _, none⟩) hbz').trans d2⟩
        have hyl := H0.out.fit.lp y (List.mem_of_getElem? hm1)
        have RQ := Lib.hid (fun W (hb : Below W0.heap.size W0 W) => (req_any T T' W u u' cu cu' x.pairs y.pairs (PX.out.keep (Kept.of_below hb)) (hp'.keep (Kept.of_below hb)) (by omega) (by omega)).mono fun e w' p => lift_below hb p)
        have k0 : (0 : Int) ≤ k := by omega
        have k1 : (k : Int) < h.maps.length := by omega
        have dk : decide ((k : Int) < 0) = false := by (simp <;> omega)
        have MQ := Lib.hid (show mapEqR h x = (x.ro == y.ro && decide (x.pairs = y.pairs)) by unfold mapEqR; rw [hfm])
        rw [show idxO (some (k, y)) = (k : Int) from rfl]
        clear hfm hm1 hm2 d0 d1 d2 hp' hc' hT' hbz'
        cases hr1 : x.ro with
        | false =>
          rw [hr1] at XC MQ
          clear hr1
          cases hr2 : y.ro with
          | false =>
            rw [hr2] at YC MQ
            clear hr2
            cases hpq : decide (x.pairs = y.pairs) with
            | false =>
              have R := Lib.hid (R0.out.trans (by rw [all_no HX.out (by rw [MQ.out, hpq]; rfl)]; try rfl : _ = false))
              rw [hpq] at RQ
              clear hpq
              refine wp_region_class (C := fun W => Below W0.heap.size W0 W) (by kernel_rfl) (by kernel_rfl) B6.out.drew ?_
              repeat (first | go_big_quiet_step (fail) | (refine' wpQuiet_take (by rfl) (fun W hW => ?_) ?_; rotate_left; (obtain ⟨⟨y0, y1, y2⟩, z0, z1, z2⟩ := KE.out W hW); (obtain ⟨x0, x1, x2⟩ := XC.out W hW); (obtain ⟨q1, q2⟩ := YC.out W hW);  go_simp; (first | rfl | (with_reducible exact RQ.out _ hW)); (simp only [Act.put, List.setIfInBounds_toArray, List.set_cons_zero, List.set_cons_succ])) | ((refine wpQuiet_skip (by rfl) ?_); (simp only [Act.put, List.setIfInBounds_toArray, List.set_cons_zero, List.set_cons_succ])))
              refine wpQuiet_nil ?_
              intro w7 hb7
              have B7 := Lib.hid hb7
              clear hb7
              go_wp2_with fail
              go_ret
              exact ⟨ret_bool R.out.symm, B0.out.trans (B7.out.mono B0.out.size)⟩
            | true =>
              have MT := Lib.hid (MQ.out.trans (by rw [hpq]; rfl : _ = true))
              rw [hpq] at RQ
              clear hpq
              refine wp_region_class (C := fun W => Below W0.heap.size W0 W) (by kernel_rfl) (by kernel_rfl) B6.out.drew ?_
              repeat (first | go_big_quiet_step (fail) | (refine' wpQuiet_take (by rfl) (fun W hW => ?_) ?_; rotate_left; (obtain ⟨⟨y0, y1, y2⟩, z0, z1, z2⟩ := KE.out W hW); (obtain ⟨x0, x1, x2⟩ := XC.out W hW); (obtain ⟨q1, q2⟩ := YC.out W hW);  go_simp; (first | rfl | (with_reducible exact RQ.out _ hW)); (simp only [Act.put, List.setIfInBounds_toArray, List.set_cons_zero, List.set_cons_succ])) | ((refine wpQuiet_skip (by rfl) ?_); (simp only [Act.put, List.setIfInBounds_toArray, List.set_cons_zero, List.set_cons_succ])))
              refine wpQuiet_nil ?_
              intro w7 hb7
              have B7 := Lib.hid hb7
              clear hb7
              go_wp2_with fail
              go_roundw
              case rel =>
                refine ⟨j + 1, by omega, by go_num, fun i z hi hz => ?_, B7.out⟩
                by_cases hij : i = j
                · subst hij
                  rw [HX.out] at hz
                  obtain rfl := Option.some.inj hz
                  exact MT.out
                · exact AL.out i z (by omega) hz
              case measure => simp [intOf]; omega
          | true =>
            rw [hr2] at YC MQ
            clear hr2
            have R := Lib.hid (R0.out.trans (by rw [all_no HX.out (by rw [MQ.out]; rfl)]; try rfl : _ = false))
            refine wp_region_class (C := fun W => Below W0.heap.size W0 W) (by kernel_rfl) (by kernel_rfl) B6.out.drew ?_
            repeat (first | go_big_quiet_step (fail) | (refine' wpQuiet_take (by rfl) (fun W hW => ?_) ?_; rotate_left; (obtain ⟨⟨y0, y1, y2⟩, z0, z1, z2⟩ := KE.out W hW); (obtain ⟨x0, x1, x2⟩ := XC.out W hW); (obtain ⟨q1, q2⟩ := YC.out W hW);  go_simp; (first | rfl); (simp only [Act.put, List.setIfInBounds_toArray, List.set_cons_zero, List.set_cons_succ])) | ((refine wpQuiet_skip (by rfl) ?_); (simp only [Act.put, List.setIfInBounds_toArray, List.set_cons_zero, List.set_cons_succ])))
            refine wpQuiet_nil ?_
            intro w7 hb7
            have B7 := Lib.hid hb7
            clear hb7
            go_wp2_with fail
            go_ret
            exact ⟨ret_bool R.out.symm, B0.out.trans (B7.out.mono B0.out.size)⟩
        | true =>
          rw [hr1] at XC MQ
          clear hr1
          cases hr2 : y.ro with
          | false =>
            rw [hr2] at YC MQ
            clear hr2
            have R := Lib.hid (R0.out.trans (by rw [all_no HX.out (by rw [MQ.out]; rfl)]; try rfl : _ = false))
            refine wp_region_class (C := fun W => Below W0.heap.size W0 W) (by kernel_rfl) (by kernel_rfl) B6.out.drew ?_
            repeat (first | go_big_quiet_step (fail) | (refine' wpQuiet_take (by rfl) (fun W hW => ?_) ?_; rotate_left; (obtain ⟨⟨y0, y1, y2⟩, z0, z1, z2⟩ := KE.out W hW); (obtain ⟨x0, x1, x2⟩ := XC.out W hW); (obtain ⟨q1, q2⟩ := YC.out W hW);  go_simp; (first | rfl); (simp only [Act.put, List.setIfInBounds_toArray, List.set_cons_zero, List.set_cons_succ])) | ((refine wpQuiet_skip (by rfl) ?_); (simp only [Act.put, List.setIfInBounds_toArray, List.set_cons_zero, List.set_cons_succ])))
            refine wpQuiet_nil ?_
            intro w7 hb7
            have B7 := Lib.hid hb7
            clear hb7
            go_wp2_with fail
            go_ret
            exact ⟨ret_bool R.out.symm, B0.out.trans (B7.out.mono B0.out.size)⟩
          | true =>
            rw [hr2] at YC MQ
            clear hr2
            cases hpq : decide (x.pairs = y.pairs) with
            | false =>
              have R := Lib.hid (R0.out.trans (by rw [all_no HX.out (by rw [MQ.out, hpq]; rfl)]; try rfl : _ = false))
              rw [hpq] at RQ
              clear hpq
              refine wp_region_class (C := fun W => Below W0.heap.size W0 W) (by kernel_rfl) (by kernel_rfl) B6.out.drew ?_
              repeat (first | go_big_quiet_step (fail) | (refine' wpQuiet_take (by rfl) (fun W hW => ?_) ?_; rotate_left; (obtain ⟨⟨y0, y1, y2⟩, z0, z1, z2⟩ := KE.out W hW); (obtain ⟨x0, x1, x2⟩ := XC.out W hW); (obtain ⟨q1, q2⟩ := YC.out W hW);  go_simp; (first | rfl | (with_reducible exact RQ.out _ hW)); (simp only [Act.put, List.setIfInBounds_toArray, List.set_cons_zero, List.set_cons_succ])) | ((refine wpQuiet_skip (by rfl) ?_); (simp only [Act.put, List.setIfInBounds_toArray, List.set_cons_zero, List.set_cons_succ])))
              refine wpQuiet_nil ?_
              intro w7 hb7
              have B7 := Lib.hid hb7
              clear hb7
              go_wp2_with fail
              go_ret
              exact ⟨ret_bool R.out.symm, B0.out.trans (B7.out.mono B0.out.size)⟩
            | true =>
              have MT := Lib.hid (MQ.out.trans (by rw [hpq]; rfl : _ = true))
              rw [hpq] at RQ
              clear hpq
              refine wp_region_class (C := fun W => Below W0.heap.size W0 W) (by kernel_rfl) (by kernel_rfl) B6.out.drew ?_
              repeat (first | go_big_quiet_step (fail) | (refine' wpQuiet_take (by rfl) (fun W hW => ?_) ?_; rotate_left; (obtain ⟨⟨y0, y1, y2⟩, z0, z1, z2⟩ := KE.out W hW); (obtain ⟨x0, x1, x2⟩ := XC.out W hW); (obtain ⟨q1, q2⟩ := YC.out W hW);  go_simp; (first | rfl | (with_reducible exact RQ.out _ hW)); (simp only [Act.put, List.setIfInBounds_toArray, List.set_cons_zero, List.set_cons_succ])) | ((refine wpQuiet_skip (by rfl) ?_); (simp only [Act.put, List.setIfInBounds_toArray, List.set_cons_zero, List.set_cons_succ])))
              refine wpQuiet_nil ?_
              intro w7 hb7
              have B7 := Lib.hid hb7
              clear hb7
              go_wp2_with fail
              go_roundw
              case rel =>
                refine ⟨j + 1, by omega, by go_num, fun i z hi hz => ?_, B7.out⟩
                by_cases hij : i = j
                · subst hij
                  rw [HX.out] at hz
                  obtain rfl := Option.some.inj hz
                  exact MT.out
                · exact AL.out i z (by omega) hz
              case measure => simp [intOf]; omega
    · have AM := Lib.hid (all_at (l := g.maps) (p := mapEqR h) fun k x hk hx => AL.out k x (by omega) hx)
      have R1 := Lib.hid (R0.out.trans (by rw [AM.out]; try rfl : _ = g.walks.all (walkEqR h)))
      clear R0 AL AM
      go_wp2_with fail
      clear y0 y1 y2 z0 z1 z2
      go_loopw [7] (fun i wr => EqRelW W0 g h i wr) (fun i _ => g.walks.length - (intOf i).toNat)
      case atStart => exact ⟨0, by omega, rfl, fun k x hk => by omega, BR.out⟩
      case round =>
        clear BR
        obtain ⟨j, hj, rfl, hall, hb⟩ := hrel
        have AL := Lib.hid hall
        have BR := Lib.hid hb
        clear hall hb
        obtain ⟨⟨y0, y1, y2⟩, z0, z1, z2⟩ := KE.out _ BR.out
        by_cases hlt : j < g.walks.length
        · obtain ⟨x, hx⟩ : ∃ x, g.walks[j]? = some x := ⟨_, List.getElem?_eq_getElem hlt⟩
          obtain ⟨b, rfl, hT, hbz, hc⟩ := G0.out.walks (by omega)
          obtain ⟨c0, c1, c2, c3⟩ := hc j x hx
          have XC : Hid (∀ W, Below W0.heap.size W0 W → W.cell? ⟨b, j * 4, none⟩ = some (.int .i64 x.1) ∧ W.cell? ⟨b, j * 4 + 1, none⟩ = some (.int .i64 x.2.thread) ∧ W.cell? ⟨b, j * 4 + 2, none⟩ = some (.int .i64 x.2.number) ∧ W.cell? ⟨b, j * 4 + 3, none⟩ = some (.int .i64 x.2.pos)) := fun W hb => ⟨(hb.cell (p := ⟨b, _, none⟩) hbz).trans c0, (hb.cell (p := ⟨b, _, none⟩) hbz).trans c1, (hb.cell (p := ⟨b, _, none⟩) hbz).trans c2, (hb.cell (p := ⟨b, _, none⟩) hbz).trans c3⟩
          have HX := Lib.hid hx
          have hj0 : (0 : Int) ≤ j := by omega
          have hj1 : (j : Int) < g.walks.length := by omega
          clear c0 c1 c2 c3 hx hc hT
          go_upto_region 12 with fail
          clear y0 y1 y2 z0 z1 z2
          refine wp_region_class (C := fun W => Below W0.heap.size W0 W) (by kernel_rfl) (by kernel_rfl) BR.out.drew ?_
          repeat (first | go_big_quiet_step (fail) | (refine' wpQuiet_take (by rfl) (fun W hW => ?_) ?_; rotate_left; (obtain ⟨⟨y0, y1, y2⟩, z0, z1, z2⟩ := KE.out W hW); (obtain ⟨x0, x1, x2, x3⟩ := XC.out W hW);  go_simp; (first | rfl | (with_reducible exact WA.out _ _ hW)); (simp only [Act.put, List.setIfInBounds_toArray, List.set_cons_zero, List.set_cons_succ])) | ((refine wpQuiet_skip (by rfl) ?_); (simp only [Act.put, List.setIfInBounds_toArray, List.set_cons_zero, List.set_cons_succ])))
          refine wpQuiet_nil ?_
          intro w6 hb6
          have B6 := Lib.hid hb6
          clear hb6
          go_upto_region 13 with fail
          cases hfm : findW h.walks x.1 with
          | none =>
            have R := Lib.hid (R1.out.trans (all_no HX.out (by unfold walkEqR; rw [hfm])))
            rw [show idxO (none : Option (Nat × IterD)) = -1 from rfl]
            clear hfm
            refine wp_region_class (C := fun W => Below W0.heap.size W0 W) (by kernel_rfl) (by kernel_rfl) B6.out.drew ?_
            repeat (first | go_big_quiet_step (fail) | (refine' wpQuiet_take (by rfl) (fun W hW => ?_) ?_; rotate_left; (obtain ⟨⟨y0, y1, y2⟩, z0, z1, z2⟩ := KE.out W hW); (obtain ⟨x0, x1, x2, x3⟩ := XC.out W hW);  go_simp; (first | rfl); (simp only [Act.put, List.setIfInBounds_toArray, List.set_cons_zero, List.set_cons_succ])) | ((refine wpQuiet_skip (by rfl) ?_); (simp only [Act.put, List.setIfInBounds_toArray, List.set_cons_zero, List.set_cons_succ])))
            refine wpQuiet_nil ?_
            intro w7 hb7
            have B7 := Lib.hid hb7
            clear hb7
            go_wp2_with fail
            go_ret
            exact ⟨ret_bool R.out.symm, B0.out.trans (B7.out.mono B0.out.size)⟩
          | some q =>
            obtain ⟨k, y⟩ := q
            obtain ⟨m, hm1, hm2⟩ := findW_at hfm
            have hk := (List.getElem?_eq_some_iff.1 hm1).1
            obtain ⟨b', rfl, hT', hbz', hc'⟩ := H0.out.walks (by omega)
            obtain ⟨d0, d1, d2, d3⟩ := hc' k _ hm1
            rw [hm2] at d0
            have YC : Hid (∀ W, Below W0.heap.size W0 W → W.cell? ⟨b', k * 4, none⟩ = some (.int .i64 x.1) ∧ W.cell? ⟨b', k * 4 + 1, none⟩ = some (.int .i64 y.thread) ∧ W.cell? ⟨b', k * 4 + 2, none⟩ = some (.int .i64 y.number) ∧ W.cell? ⟨b', k * 4 + 3, none⟩ = some (.int .i64 y.pos)) := fun W hb => ⟨(hb.cell (p := ⟨b', _, none⟩) hbz').trans d0, (hb.cell (p := ⟨b', _, none⟩) hbz').trans d1, (hb.cell (p := ⟨b', _, none⟩) hbz').trans d2, (hb.cell (p := ⟨b', _, none⟩) hbz').trans d3⟩
            have k0 : (0 : Int) ≤ k := by omega
            have k1 : (k : Int) < h.walks.length := by omega
            have dk : decide ((k : Int) < 0) = false := by (simp <;> omega)
            have MQ := Lib.hid (show walkEqR h x = itEq x.2 y by unfold walkEqR; rw [hfm])
            rw [show idxO (some (k, y)) = (k : Int) from rfl]
            clear hfm hm1 hm2 d0 d1 d2 d3 hc' hT' hbz'
            have UI := Lib.hid (show itEq x.2 y = (x.2.thread == y.thread && (x.2.number == y.number && x.2.pos == y.pos)) from rfl)
            cases h1 : (x.2.thread == y.thread) with
            | false =>
              have R := Lib.hid (R1.out.trans (all_no HX.out (MQ.out.trans (UI.out.trans (by simp [h1] : _ = false)))))
              refine wp_region_class (C := fun W => Below W0.heap.size W0 W) (by kernel_rfl) (by kernel_rfl) B6.out.drew ?_
              repeat (first | go_big_quiet_step (fail) | (refine' wpQuiet_take (by rfl) (fun W hW => ?_) ?_; rotate_left; (obtain ⟨⟨y0, y1, y2⟩, z0, z1, z2⟩ := KE.out W hW); (obtain ⟨x0, x1, x2, x3⟩ := XC.out W hW); (obtain ⟨q0, q1, q2, q3⟩ := YC.out W hW);  go_simp; (first | rfl); (simp only [Act.put, List.setIfInBounds_toArray, List.set_cons_zero, List.set_cons_succ])) | ((refine wpQuiet_skip (by rfl) ?_); (simp only [Act.put, List.setIfInBounds_toArray, List.set_cons_zero, List.set_cons_succ])))
              refine wpQuiet_nil ?_
              intro w7 hb7
              have B7 := Lib.hid hb7
              clear hb7
              go_wp2_with fail
              go_ret
              exact ⟨ret_bool R.out.symm, B0.out.trans (B7.out.mono B0.out.size)⟩
            | true =>
              cases h2 : (x.2.number == y.number) with
              | false =>
                have R := Lib.hid (R1.out.trans (all_no HX.out (MQ.out.trans (UI.out.trans (by simp [h2] : _ = false)))))
                refine wp_region_class (C := fun W => Below W0.heap.size W0 W) (by kernel_rfl) (by kernel_rfl) B6.out.drew ?_
                repeat (first | go_big_quiet_step (fail) | (refine' wpQuiet_take (by rfl) (fun W hW => ?_) ?_; rotate_left; (obtain ⟨⟨y0, y1, y2⟩, z0, z1, z2⟩ := KE.out W hW); (obtain ⟨x0, x1, x2, x3⟩ := XC.out W hW); (obtain ⟨q0, q1, q2, q3⟩ := YC.out W hW);  go_simp; (first | rfl); (simp only [Act.put, List.setIfInBounds_toArray, List.set_cons_zero, List.set_cons_succ])) | ((refine wpQuiet_skip (by rfl) ?_); (simp only [Act.put, List.setIfInBounds_toArray, List.set_cons_zero, List.set_cons_succ])))
                refine wpQuiet_nil ?_
                intro w7 hb7
                have B7 := Lib.hid hb7
                clear hb7
                go_wp2_with fail
                go_ret
                exact ⟨ret_bool R.out.symm, B0.out.trans (B7.out.mono B0.out.size)⟩
              | true =>
                cases h3 : (x.2.pos == y.pos) with
                | false =>
                  have R := Lib.hid (R1.out.trans (all_no HX.out (MQ.out.trans (UI.out.trans (by simp [h3] : _ = false)))))
                  refine wp_region_class (C := fun W => Below W0.heap.size W0 W) (by kernel_rfl) (by kernel_rfl) B6.out.drew ?_
                  repeat (first | go_big_quiet_step (fail) | (refine' wpQuiet_take (by rfl) (fun W hW => ?_) ?_; rotate_left; (obtain ⟨⟨y0, y1, y2⟩, z0, z1, z2⟩ := KE.out W hW); (obtain ⟨x0, x1, x2, x3⟩ := XC.out W hW); (obtain ⟨q0, q1, q2, q3⟩ := YC.out W hW);  go_simp; (first | rfl); (simp only [Act.put, List.setIfInBounds_toArray, List.set_cons_zero, List.set_cons_succ])) | ((refine wpQuiet_skip (by rfl) ?_); (simp only [Act.put, List.setIfInBounds_toArray, List.set_cons_zero, List.set_cons_succ])))
                  refine wpQuiet_nil ?_
                  intro w7 hb7
                  have B7 := Lib.hid hb7
                  clear hb7
                  go_wp2_with fail
                  go_ret
                  exact ⟨ret_bool R.out.symm, B0.out.trans (B7.out.mono B0.out.size)⟩
                | true =>
                  have MT := Lib.hid (MQ.out.trans (UI.out.trans (by rw [h1, h2, h3]; try rfl : _ = true)))
                  have v1 := beq_iff_eq.1 h1
                  have v2 := beq_iff_eq.1 h2
                  have v3 := beq_iff_eq.1 h3
                  rw [← v1, ← v2, ← v3] at YC
                  clear h1 h2 h3 v1 v2 v3
                  refine wp_region_class (C := fun W => Below W0.heap.size W0 W) (by kernel_rfl) (by kernel_rfl) B6.out.drew ?_
                  repeat (first | go_big_quiet_step (fail) | (refine' wpQuiet_take (by rfl) (fun W hW => ?_) ?_; rotate_left; (obtain ⟨⟨y0, y1, y2⟩, z0, z1, z2⟩ := KE.out W hW); (obtain ⟨x0, x1, x2, x3⟩ := XC.out W hW); (obtain ⟨q0, q1, q2, q3⟩ := YC.out W hW);  go_simp; (first | rfl); (simp only [Act.put, List.setIfInBounds_toArray, List.set_cons_zero, List.set_cons_succ])) | ((refine wpQuiet_skip (by rfl) ?_); (simp only [Act.put, List.setIfInBounds_toArray, List.set_cons_zero, List.set_cons_succ])))
                  refine wpQuiet_nil ?_
                  intro w7 hb7
                  have B7 := Lib.hid hb7
                  clear hb7
                  go_wp2_with fail
                  go_roundw
                  case rel =>
                    refine ⟨j + 1, by omega, by go_num, fun i z hi hz => ?_, B7.out⟩
                    by_cases hij : i = j
                    · subst hij
                      rw [HX.out] at hz
                      obtain rfl := Option.some.inj hz
                      exact MT.out
                    · exact AL.out i z (by omega) hz
                  case measure => simp [intOf]; omega
        · have AM := Lib.hid (all_at (l := g.walks) (p := walkEqR h) fun k x hk hx => AL.out k x (by omega) hx)
          have R := Lib.hid (R1.out.trans AM.out)
          go_wp2_with fail
          go_ret
          exact ⟨ret_bool R.out.symm, B0.out.trans (BR.out.mono B0.out.size)⟩
end Go.Proofs.Ytagfghihnkkfiaa
