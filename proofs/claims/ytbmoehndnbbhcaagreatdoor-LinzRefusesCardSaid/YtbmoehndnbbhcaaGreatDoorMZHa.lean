/- The walk of the reference's Justified. The walks of package history's proper and Check. The walks of package history's Check and Invoked. -/
import Derived.Test.YtbmoehndnbbhcaaGreatDoorMZS
import Derived.Deep.RegionHeld3
import Derived.Deep.QuietTactic
import Derived.Test.YtbmoehndnbbhcaaGreatDoorMModA
import Derived.Test.YtbmoehndnbbhcaaGreatDoorMZR
namespace Go.Proofs.YtbmoehndnbbhcaaGreatDoor
set_option linter.unusedVariables false
set_option linter.unusedSimpArgs false
open Go Go.RowKit Go.MapKept
theorem ops_cells {w : World} {b off i : Nat} {o : OpD} (h : w.cell? ⟨b, off + i * 5, none⟩ = some (.int .i64 o.kind) ∧ w.cell? ⟨b, off + i * 5 + 1, none⟩ = some (.int .i64 o.handle) ∧ w.cell? ⟨b, off + i * 5 + 2, none⟩ = some (.string o.key) ∧ w.cell? ⟨b, off + i * 5 + 3, none⟩ = some (.int .u64 o.value) ∧ w.cell? ⟨b, off + i * 5 + 4, none⟩ = some (.int .u64 o.expect)) (W : World) (hb : b < w.heap.size) (hW : Below w.heap.size w W) :
    W.cell? ⟨b, off + i * 5, none⟩ = some (.int .i64 o.kind) ∧ W.cell? ⟨b, off + i * 5 + 1, none⟩ = some (.int .i64 o.handle) ∧ W.cell? ⟨b, off + i * 5 + 2, none⟩ = some (.string o.key) ∧ W.cell? ⟨b, off + i * 5 + 3, none⟩ = some (.int .u64 o.value) ∧ W.cell? ⟨b, off + i * 5 + 4, none⟩ = some (.int .u64 o.expect) :=
  ⟨(hW.cell (p := ⟨b, _, none⟩) hb).trans h.1, (hW.cell (p := ⟨b, _, none⟩) hb).trans h.2.1, (hW.cell (p := ⟨b, _, none⟩) hb).trans h.2.2.1, (hW.cell (p := ⟨b, _, none⟩) hb).trans h.2.2.2.1, (hW.cell (p := ⟨b, _, none⟩) hb).trans h.2.2.2.2⟩
set_option maxRecDepth 100000 in
set_option maxHeartbeats 4000000 in
theorem rjust_any (w : World) (A B : Option Addr) (c d : Nat) (ts : List (List OpD)) (l : List EvD) (hA : ThrAt w A ts) (hB : EvsAt w B l) (ft : ThrFit ts) (hl : l.length ≤ 1048576) (t i : Nat) (tt : List OpD) (o : OpD) (ht : ts[t]? = some tt) (ho : tt[i]? = some o) :
    Calls Tryz.prog 47 #[.slice A ts.length c, .slice B l.length d, .agg #[.int .i64 t, .int .i64 i]] w fun e w' => e = .returned (.bool (justP ts l ((t : Int), (i : Int)))) ∧ Below w.heap.size w w' := by
  have htl := (List.getElem?_eq_some_iff.1 ht).1
  have hil := (List.getElem?_eq_some_iff.1 ho).1
  have HA := Lib.hid hA
  have HB := Lib.hid hB
  have FT := Lib.hid ft.each
  have hl1 := ft.len
  have hl2 := ft.each tt (List.mem_of_getElem? ht)
  have HP := Lib.hid (show opAt ts ((t : Int), (i : Int)) = o by unfold opAt; simp [ht, ho])
  obtain ⟨ba, offa, rfl, hba, hca⟩ := hA (by omega)
  obtain ⟨u, cu, k1, k2⟩ := hca t tt ht
  obtain ⟨bo, offo, rfl, hbo, hco⟩ := k2 (by omega)
  have OC := Lib.hid (hco i o ho)
  have HC := Lib.hid hca
  have t0 : (0 : Int) ≤ t := by omega
  have t1 : (t : Int) < ts.length := by omega
  have i0 : (0 : Int) ≤ i := by omega
  have i1 : (i : Int) < tt.length := by omega
  clear hA hB ft ht ho hca k2 hco
  go_enter Tryz.func47, Tryz.ntmps47
  go_upto_region 1 with fail
  obtain ⟨W0, hW0⟩ : ∃ W0, W0 = w.alloc (.cells #[.int .i64 t, .int .i64 i] 37) := ⟨_, rfl⟩
  have BX : Hid (Below w.heap.size w W0) := by rw [hW0]; exact balZ (Below.refl _ _) _
  have KA : Hid (W0.heap[w.heap.size]? = some (opBox (t, i))) := by rw [hW0]; exact (heap_alloc w _).1
  rw [← hW0]
  clear hW0
  obtain ⟨ok, oh, okey, ov, oe⟩ := o
  simp only at OC
  have KX : Hid (∀ W, Below W0.heap.size W0 W → (W.cell? ⟨w.heap.size, 0, none⟩ = some (.int .i64 t) ∧ W.cell? ⟨w.heap.size, 1, none⟩ = some (.int .i64 i)) ∧ W.cell? ⟨ba, offa + t, none⟩ = some (.slice (some ⟨bo, offo, none⟩) tt.length cu) ∧ (W.cell? ⟨bo, offo + i * 5, none⟩ = some (.int .i64 ok) ∧ W.cell? ⟨bo, offo + i * 5 + 1, none⟩ = some (.int .i64 oh) ∧ W.cell? ⟨bo, offo + i * 5 + 2, none⟩ = some (.string okey) ∧ W.cell? ⟨bo, offo + i * 5 + 3, none⟩ = some (.int .u64 ov) ∧ W.cell? ⟨bo, offo + i * 5 + 4, none⟩ = some (.int .u64 oe))) :=
    fun W hW => ⟨opBox_cells (opBox_kept KA.out hW), ((BX.out.trans (hW.mono BX.out.size)).cell (p := ⟨ba, _, none⟩) hba).trans k1, ops_cells (o := ⟨ok, oh, okey, ov, oe⟩) OC.out W hbo (BX.out.trans (hW.mono BX.out.size))⟩
  have BR : Hid (Below W0.heap.size W0 W0) := Below.refl _ _
  have BD : Hid (Below W0.heap.size W0 W0.drew) := (Below.refl _ _).drew
  go_region_held3 (fun W => (W.cell? ⟨w.heap.size, 0, none⟩ = some (.int .i64 t) ∧ W.cell? ⟨w.heap.size, 1, none⟩ = some (.int .i64 i)) ∧ W.cell? ⟨ba, offa + t, none⟩ = some (.slice (some ⟨bo, offo, none⟩) tt.length cu) ∧ (W.cell? ⟨bo, offo + i * 5, none⟩ = some (.int .i64 ok) ∧ W.cell? ⟨bo, offo + i * 5 + 1, none⟩ = some (.int .i64 oh) ∧ W.cell? ⟨bo, offo + i * 5 + 2, none⟩ = some (.string okey) ∧ W.cell? ⟨bo, offo + i * 5 + 3, none⟩ = some (.int .u64 ov) ∧ W.cell? ⟨bo, offo + i * 5 + 4, none⟩ = some (.int .u64 oe))) ((refine KX.out _ ?_; repeat' (first | (with_reducible exact BR.out) | (with_reducible exact BD.out) | (with_reducible refine Below.drew ?_) | (with_reducible refine balZ ?_ _)))) (fail)
  obtain ⟨W1, hW1⟩ : ∃ W1, W1 = (W0.alloc (.cells #[.int .i64 ok, .int .i64 oh, .string okey, .int .u64 ov, .int .u64 oe] 60)).drew := ⟨_, rfl⟩
  have B1 : Hid (Below W0.heap.size W0 W1) := by rw [hW1]; exact (balZ (Below.refl _ _) _).drew
  have K1 : Hid (W1.heap[W0.heap.size]? = some (.cells #[.int .i64 ok, .int .i64 oh, .string okey, .int .u64 ov, .int .u64 oe] 60 (0, 0))) := by rw [hW1]; exact (heap_alloc W0 _).1
  have BW1 := Lib.hid (BX.out.trans (B1.out.mono BX.out.size))
  have KA1 := Lib.hid (kept_block KA.out B1.out)
  rw [← hW1]
  clear hW1 KX BR BD
  obtain ⟨o0, o1⟩ := opP_cells K1.out
  by_cases c1 : ok < 1
  · have R := Lib.hid (just_bad (l := l) HP.out (Or.inl c1))
    go_wp2_with fail
    go_ret
    exact ⟨ret_bool R.out.symm, BW1.out⟩
  by_cases c2 : 13 < ok
  · have R := Lib.hid (just_bad (l := l) HP.out (Or.inr (Or.inl c2)))
    go_wp2_with fail
    go_ret
    exact ⟨ret_bool R.out.symm, BW1.out⟩
  by_cases c3 : ok ≠ 13 ∧ oh = 0
  · have R := Lib.hid (just_bad (l := l) HP.out (Or.inr (Or.inr c3)))
    obtain ⟨c31, rfl⟩ := c3
    have c31b : (ok == 13) = false := by simpa using c31
    go_wp2_with fail
    go_ret
    exact ⟨ret_bool R.out.symm, BW1.out⟩
  have CK : Hid (¬ (ok < 1 ∨ 13 < ok ∨ (ok ≠ 13 ∧ oh = 0))) := by intro hh; rcases hh with hh | hh | hh <;> contradiction
  have c3b : ok = 13 ∨ (¬ ok = 13 ∧ (ok == 13) = false ∧ ¬ oh = 0 ∧ (oh == 0) = false) := by
    by_cases hk : ok = 13
    · exact Or.inl hk
    · exact Or.inr ⟨hk, by simpa using hk, fun hh => c3 ⟨hk, hh⟩, by simpa using fun hh => c3 ⟨hk, hh⟩⟩
  clear c3
  by_cases n1 : oh < 1
  · have R := Lib.hid (just_none (l := l) HP.out CK.out (show numP (lens ts) oh = none from if_pos (Or.inl n1)))
    rcases c3b with rfl | ⟨c3a, c3b, c4a, c4b⟩
    all_goals
      go_wp2_with fail
      go_ret
      exact ⟨ret_bool R.out.symm, BW1.out⟩
  by_cases n2 : 128 < oh
  · have R := Lib.hid (just_none (l := l) HP.out CK.out (show numP (lens ts) oh = none from if_pos (Or.inr n2)))
    rcases c3b with rfl | ⟨c3a, c3b, c4a, c4b⟩
    all_goals
      go_wp2_with fail
      go_ret
      exact ⟨ret_bool R.out.symm, BW1.out⟩
  have m0 : 0 ≤ oh - 1 := by omega
  have NE := Lib.hid (show numP (lens ts) oh = if ExP (lens ts) ((oh - 1) / 16, (oh - 1) % 16) then some ((oh - 1) / 16, (oh - 1) % 16) else none by unfold numP; rw [if_neg (by omega)])
  have p0 : 0 ≤ (oh - 1) / 16 := by omega
  have p1 : 0 ≤ (oh - 1) % 16 := by omega
  rcases c3b with rfl | ⟨c3a, c3b, c4a, c4b⟩
  · go_upto_region 7 with fail
    obtain ⟨W2, hW2⟩ : ∃ W2, W2 = W1.alloc (.cells #[.int .i64 ((oh - 1) / 16), .int .i64 ((oh - 1) % 16)] 37) := ⟨_, rfl⟩
    have B2 : Hid (Below W1.heap.size W1 W2) := by rw [hW2]; exact balZ (Below.refl _ _) _
    have KB : Hid (W2.heap[W1.heap.size]? = some (opBox ((oh - 1) / 16, (oh - 1) % 16))) := by rw [hW2]; exact (heap_alloc W1 _).1
    have BW2 := Lib.hid (BW1.out.trans (B2.out.mono BW1.out.size))
    have KA2 := Lib.hid (kept_block KA1.out B2.out)
    have K2 := Lib.hid (kept_block K1.out B2.out)
    rw [← hW2]
    clear hW2 o0 o1
    generalize hb0 : (oh - 1) / 16 = b0 at *
    generalize hb1 : (oh - 1) % 16 = b1 at *
    clear hb0 hb1 m0
    obtain ⟨x0, x1⟩ := opBox_cells KB.out
    simp only at x0 x1
    by_cases n3 : ts.length ≤ b0
    · have R := Lib.hid (just_none (l := l) HP.out CK.out (by rw [NE.out, if_neg fun h => by have := h.lt; rw [lens_len] at this; simp only at this; omega]))
      have d3 : decide (ts.length ≤ b0) = true := by simpa using n3
      go_quiet (fail)
      go_wp2_with fail
      go_ret
      exact ⟨ret_bool R.out.symm, below_drewN BW2.out _⟩
    have d3 : decide (ts.length ≤ b0) = false := by simpa using n3
    obtain ⟨tb, rfl⟩ : ∃ tb : Nat, b0 = tb := ⟨b0.toNat, by omega⟩
    obtain ⟨ib, rfl⟩ : ∃ ib : Nat, b1 = ib := ⟨b1.toNat, by omega⟩
    have d3' : decide (ts.length ≤ tb) = false := by simp; omega
    obtain ⟨ttb, htb⟩ : ∃ ttb, ts[tb]? = some ttb := ⟨_, List.getElem?_eq_getElem (by omega)⟩
    obtain ⟨ub, cub, k1b, k2b⟩ := HC.out tb ttb htb
    have hl2b := FT.out ttb (List.mem_of_getElem? htb)
    have z1 := (BW2.out.cell (p := ⟨ba, _, none⟩) hba).trans k1b
    have tb1 : (tb : Int) < ts.length := by omega
    by_cases n4 : ttb.length ≤ ib
    · have R := Lib.hid (just_none (l := l) HP.out CK.out (by rw [NE.out, if_neg fun h => by have := ((exP_iff htb).1 h).2; omega]))
      have d4 : decide ((ttb.length : Int) ≤ ib) = true := by simpa using n4
      have d4' : decide (ttb.length ≤ ib) = true := by simpa using n4
      clear htb k1b k2b
      go_quiet (fail)
      go_wp2_with fail
      go_ret
      exact ⟨ret_bool R.out.symm, below_drewN BW2.out _⟩
    have d4 : decide ((ttb.length : Int) ≤ ib) = false := by simp; omega
    have d4' : decide (ttb.length ≤ ib) = false := by simpa using n4
    obtain ⟨ob, hob⟩ : ∃ ob, ttb[ib]? = some ob := ⟨_, List.getElem?_eq_getElem (by omega)⟩
    have hopb : opAt ts ((tb : Int), (ib : Int)) = ob := by unfold opAt; simp [htb, hob]
    have J := Lib.hid (just_some (l := l) HP.out CK.out (show numP (lens ts) oh = some ((tb : Int), (ib : Int)) by rw [NE.out, if_pos ((exP_iff htb).2 ⟨by omega, by omega⟩)]) hopb)
    obtain ⟨bob, offob, rfl, hbob, hcob⟩ := k2b (by omega)
    have cb0 := (hcob ib ob hob).1
    have ib1 : (ib : Int) < ttb.length := by omega
    clear htb k1b k2b hcob hob hopb
    go_quiet (fail)
    have B3 : Hid (Below W2.heap.size W2 (W2.drewN nq)) := below_drewN (Below.refl _ _) _
    have BW3 := Lib.hid (BW2.out.trans (B3.out.mono BW2.out.size))
    have KA3 := Lib.hid (kept_block KA2.out B3.out)
    have KB3 := Lib.hid (kept_block KB.out B3.out)
    have K3 := Lib.hid (kept_block K2.out B3.out)
    have z2 := (B3.out.cell (p := ⟨ba, offa + tb, none⟩) (Nat.lt_of_lt_of_le hba BW2.out.size)).trans z1
    have z3 := (BW3.out.cell (p := ⟨bob, _, none⟩) hbob).trans cb0
    generalize W2.drewN nq = W3 at *
    clear B3 z1 x0 x1 d3 d3' d4 d4' cb0
    obtain ⟨x0, x1⟩ := opBox_cells KB3.out
    simp only at x0 x1
    obtain ⟨bk, bh, bkey, bv, be⟩ := ob
    simp only at J z3
    go_upto_region 9 with fail
    go_quiet (fail)
    have B4 : Hid (Below W3.heap.size W3 (W3.drewN nq)) := below_drewN (Below.refl _ _) _
    have BW4 := Lib.hid (BW3.out.trans (B4.out.mono BW3.out.size))
    have KA4 := Lib.hid (kept_block KA3.out B4.out)
    have KB4 := Lib.hid (kept_block KB3.out B4.out)
    have K4 := Lib.hid (kept_block K3.out B4.out)
    generalize W3.drewN nq = W4 at *
    clear B4 z2 z3 x0 x1
    obtain ⟨x0, x1⟩ := opBox_cells KB4.out
    simp only at x0 x1
    cases hr : resultP l ((tb : Int), (ib : Int)) with
    | none =>
      have J2 := Lib.hid (show justP ts l ((t : Int), (i : Int)) = true by rw [J.out]; unfold lateP; rw [hr]; simp)
      have HR := Lib.hid hr
      clear hr
      go_wp2_with (first | (go_at_call 30; refine stopAt ?_))
      unfold StopAt
      refine (rresult_none W4 B d l hl (HB.out.below BW4.out) tb ib HR.out).mono ?_
      rintro e w5 ⟨rfl, hb5⟩
      obtain ⟨W5, hW5⟩ : ∃ W5, W5 = w5.alloc (.cells #[.int .i64 0, .bool false, .int .u64 0, .string ⟨#[]⟩, .int .i64 0, .int .i64 0, .int .i64 0, .bool false] 45) := ⟨_, rfl⟩
      have B5 : Hid (Below W4.heap.size W4 W5) := by rw [hW5]; exact hb5.alloc hb5.size _
      have BW5 := Lib.hid (BW4.out.trans (B5.out.mono BW4.out.size))
      obtain ⟨y0, y1⟩ := opBox_cells (kept_block KA4.out B5.out)
      obtain ⟨q0, q1⟩ := opBox_cells (kept_block KB4.out B5.out)
      obtain ⟨o0, o1⟩ := opP_cells (kept_block K4.out B5.out)
      simp only at y0 y1 q0 q1
      clear hb5 x0 x1
      go_upto_region 11 with fail
      rw [← hW5]
      clear hW5
      go_wp2_with fail
      all_goals (go_ret; exact ⟨ret_bool J2.out.symm, BW5.out⟩)
    | some r =>
      have HR := Lib.hid hr
      go_wp2_with (first | (go_at_call 30; refine stopAt ?_))
      unfold StopAt
      refine (rresult_some W4 B d l hl (HB.out.below BW4.out) tb ib r HR.out).mono ?_
      rintro e w5 ⟨rfl, hb5⟩
      obtain ⟨W5, hW5⟩ : ∃ W5, W5 = w5.alloc (.cells #[.int .i64 r.err, .bool r.found, .int .u64 r.value, .string r.key, .int .i64 r.count, .int .i64 r.ref, .int .i64 r.root, .bool r.ro] 45) := ⟨_, rfl⟩
      have B5 : Hid (Below W4.heap.size W4 W5) := by rw [hW5]; exact hb5.alloc hb5.size _
      have K5 : Hid (W5.heap[w5.heap.size]? = some (.cells #[.int .i64 r.err, .bool r.found, .int .u64 r.value, .string r.key, .int .i64 r.count, .int .i64 r.ref, .int .i64 r.root, .bool r.ro] 45 (0, 0))) := by rw [hW5]; exact (heap_alloc w5 _).1
      have BW5 := Lib.hid (BW4.out.trans (B5.out.mono BW4.out.size))
      have KA5 := Lib.hid (kept_block KA4.out B5.out)
      have K4b := Lib.hid (kept_block K4.out B5.out)
      have KB5 := Lib.hid (kept_block KB4.out B5.out)
      have s0 := blk_cell K5.out 0
      simp only [List.getElem?_toArray, List.getElem?_cons_zero] at s0
      obtain ⟨y0, y1⟩ := opBox_cells KA5.out
      obtain ⟨q0, q1⟩ := opBox_cells KB5.out
      obtain ⟨o0, o1⟩ := opP_cells K4b.out
      simp only at y0 y1 q0 q1
      clear hb5 x0 x1
      go_upto_region 11 with fail
      rw [← hW5]
      clear hW5
      by_cases r1 : r.err = 0
      case neg =>
        have r1b : (r.err == 0) = false := by simpa using r1
        have r1c : (r.err != 0) = true := by simpa using r1
        have J2 := Lib.hid (show justP ts l ((t : Int), (i : Int)) = true by rw [J.out]; unfold lateP; rw [hr]; simp [r1])
        clear hr
        go_wp2_with fail
        all_goals (go_ret; exact ⟨ret_bool J2.out.symm, BW5.out⟩)
      have J2 := Lib.hid (show justP ts l ((t : Int), (i : Int)) = (misP 13 bk tb t || !beforeP l ((tb : Int), (ib : Int)) ((t : Int), (i : Int))) by rw [J.out]; unfold lateP; rw [hr]; simp [r1])
      obtain ⟨re, rf, rv, rk, rc, rr, ro, rb⟩ := r
      simp only at r1 s0
      subst r1
      clear hr
      go_wp2_with (first | (go_at_call 27; refine stopAt ?_))
      unfold StopAt
      refine (before_any W5 B d l hl (HB.out.below BW5.out) tb ib t i).mono ?_
      rintro e w6 ⟨rfl, hb6⟩
      have BW6 := Lib.hid (BW5.out.trans (hb6.mono BW5.out.size))
      have KA6 := Lib.hid (kept_block KA5.out hb6)
      have KB6 := Lib.hid (kept_block KB5.out hb6)
      have K6 := Lib.hid (kept_block K4b.out hb6)
      clear hb6 y0 y1 q0 q1 o0 o1 s0
      obtain ⟨y0, y1⟩ := opBox_cells KA6.out
      obtain ⟨q0, q1⟩ := opBox_cells KB6.out
      obtain ⟨o0, o1⟩ := opP_cells K6.out
      simp only at y0 y1 q0 q1
      cases hbf : beforeP l ((tb : Int), (ib : Int)) ((t : Int), (i : Int)) with
      | false =>
        have R := Lib.hid (show justP ts l ((t : Int), (i : Int)) = true by rw [J2.out, hbf]; simp)
        clear hbf
        go_wp2_with fail
        all_goals (go_ret; exact ⟨ret_bool R.out.symm, BW6.out⟩)
      | true =>
        have J3 := Lib.hid (show justP ts l ((t : Int), (i : Int)) = misP 13 bk tb t by rw [J2.out, hbf]; simp)
        clear hbf
        by_cases m1 : bk = 12
        · subst m1
          by_cases m2 : (tb : Int) = t
          · have m2b : ((tb : Int) == t) = true := by simpa using m2
            have R := Lib.hid (show justP ts l ((t : Int), (i : Int)) = false by rw [J3.out]; simp [misP, m2])
            go_wp2_with fail
            go_ret
            exact ⟨ret_bool R.out.symm, BW6.out⟩
          · have m2b : ((tb : Int) == t) = false := by simpa using m2
            have m2c : ((tb : Int) != t) = true := by simpa using m2
            have R := Lib.hid (show justP ts l ((t : Int), (i : Int)) = true by rw [J3.out]; simp [misP, m2])
            go_wp2_with fail
            go_ret
            exact ⟨ret_bool R.out.symm, BW6.out⟩
        · have m1b : (bk == 12) = false := by simpa using m1
          have m1c : (bk != 12) = true := by simpa using m1
          have R := Lib.hid (show justP ts l ((t : Int), (i : Int)) = true by rw [J3.out]; simp [misP, m1])
          go_wp2_with fail
          go_ret
          exact ⟨ret_bool R.out.symm, BW6.out⟩
  · go_upto_region 7 with fail
    obtain ⟨W2, hW2⟩ : ∃ W2, W2 = W1.alloc (.cells #[.int .i64 ((oh - 1) / 16), .int .i64 ((oh - 1) % 16)] 37) := ⟨_, rfl⟩
    have B2 : Hid (Below W1.heap.size W1 W2) := by rw [hW2]; exact balZ (Below.refl _ _) _
    have KB : Hid (W2.heap[W1.heap.size]? = some (opBox ((oh - 1) / 16, (oh - 1) % 16))) := by rw [hW2]; exact (heap_alloc W1 _).1
    have BW2 := Lib.hid (BW1.out.trans (B2.out.mono BW1.out.size))
    have KA2 := Lib.hid (kept_block KA1.out B2.out)
    have K2 := Lib.hid (kept_block K1.out B2.out)
    rw [← hW2]
    clear hW2 o0 o1
    generalize hb0 : (oh - 1) / 16 = b0 at *
    generalize hb1 : (oh - 1) % 16 = b1 at *
    clear hb0 hb1 m0
    obtain ⟨x0, x1⟩ := opBox_cells KB.out
    simp only at x0 x1
    by_cases n3 : ts.length ≤ b0
    · have R := Lib.hid (just_none (l := l) HP.out CK.out (by rw [NE.out, if_neg fun h => by have := h.lt; rw [lens_len] at this; simp only at this; omega]))
      have d3 : decide (ts.length ≤ b0) = true := by simpa using n3
      go_quiet (fail)
      go_wp2_with fail
      go_ret
      exact ⟨ret_bool R.out.symm, below_drewN BW2.out _⟩
    have d3 : decide (ts.length ≤ b0) = false := by simpa using n3
    obtain ⟨tb, rfl⟩ : ∃ tb : Nat, b0 = tb := ⟨b0.toNat, by omega⟩
    obtain ⟨ib, rfl⟩ : ∃ ib : Nat, b1 = ib := ⟨b1.toNat, by omega⟩
    have d3' : decide (ts.length ≤ tb) = false := by simp; omega
    obtain ⟨ttb, htb⟩ : ∃ ttb, ts[tb]? = some ttb := ⟨_, List.getElem?_eq_getElem (by omega)⟩
    obtain ⟨ub, cub, k1b, k2b⟩ := HC.out tb ttb htb
    have hl2b := FT.out ttb (List.mem_of_getElem? htb)
    have z1 := (BW2.out.cell (p := ⟨ba, _, none⟩) hba).trans k1b
    have tb1 : (tb : Int) < ts.length := by omega
    by_cases n4 : ttb.length ≤ ib
    · have R := Lib.hid (just_none (l := l) HP.out CK.out (by rw [NE.out, if_neg fun h => by have := ((exP_iff htb).1 h).2; omega]))
      have d4 : decide ((ttb.length : Int) ≤ ib) = true := by simpa using n4
      have d4' : decide (ttb.length ≤ ib) = true := by simpa using n4
      clear htb k1b k2b
      go_quiet (fail)
      go_wp2_with fail
      go_ret
      exact ⟨ret_bool R.out.symm, below_drewN BW2.out _⟩
    have d4 : decide ((ttb.length : Int) ≤ ib) = false := by simp; omega
    have d4' : decide (ttb.length ≤ ib) = false := by simpa using n4
    obtain ⟨ob, hob⟩ : ∃ ob, ttb[ib]? = some ob := ⟨_, List.getElem?_eq_getElem (by omega)⟩
    have hopb : opAt ts ((tb : Int), (ib : Int)) = ob := by unfold opAt; simp [htb, hob]
    have J := Lib.hid (just_some (l := l) HP.out CK.out (show numP (lens ts) oh = some ((tb : Int), (ib : Int)) by rw [NE.out, if_pos ((exP_iff htb).2 ⟨by omega, by omega⟩)]) hopb)
    obtain ⟨bob, offob, rfl, hbob, hcob⟩ := k2b (by omega)
    have cb0 := (hcob ib ob hob).1
    have ib1 : (ib : Int) < ttb.length := by omega
    clear htb k1b k2b hcob hob hopb
    go_quiet (fail)
    have B3 : Hid (Below W2.heap.size W2 (W2.drewN nq)) := below_drewN (Below.refl _ _) _
    have BW3 := Lib.hid (BW2.out.trans (B3.out.mono BW2.out.size))
    have KA3 := Lib.hid (kept_block KA2.out B3.out)
    have KB3 := Lib.hid (kept_block KB.out B3.out)
    have K3 := Lib.hid (kept_block K2.out B3.out)
    have z2 := (B3.out.cell (p := ⟨ba, offa + tb, none⟩) (Nat.lt_of_lt_of_le hba BW2.out.size)).trans z1
    have z3 := (BW3.out.cell (p := ⟨bob, _, none⟩) hbob).trans cb0
    generalize W2.drewN nq = W3 at *
    clear B3 z1 x0 x1 d3 d3' d4 d4' cb0
    obtain ⟨x0, x1⟩ := opBox_cells KB3.out
    simp only at x0 x1
    obtain ⟨bk, bh, bkey, bv, be⟩ := ob
    simp only at J z3
    go_upto_region 9 with fail
    go_quiet (fail)
    have B4 : Hid (Below W3.heap.size W3 (W3.drewN nq)) := below_drewN (Below.refl _ _) _
    have BW4 := Lib.hid (BW3.out.trans (B4.out.mono BW3.out.size))
    have KA4 := Lib.hid (kept_block KA3.out B4.out)
    have KB4 := Lib.hid (kept_block KB3.out B4.out)
    have K4 := Lib.hid (kept_block K3.out B4.out)
    generalize W3.drewN nq = W4 at *
    clear B4 z2 z3 x0 x1
    obtain ⟨x0, x1⟩ := opBox_cells KB4.out
    simp only at x0 x1
    cases hr : resultP l ((tb : Int), (ib : Int)) with
    | none =>
      have J2 := Lib.hid (show justP ts l ((t : Int), (i : Int)) = true by rw [J.out]; unfold lateP; rw [hr]; simp)
      have HR := Lib.hid hr
      clear hr
      go_wp2_with (first | (go_at_call 30; refine stopAt ?_))
      unfold StopAt
      refine (rresult_none W4 B d l hl (HB.out.below BW4.out) tb ib HR.out).mono ?_
      rintro e w5 ⟨rfl, hb5⟩
      obtain ⟨W5, hW5⟩ : ∃ W5, W5 = w5.alloc (.cells #[.int .i64 0, .bool false, .int .u64 0, .string ⟨#[]⟩, .int .i64 0, .int .i64 0, .int .i64 0, .bool false] 45) := ⟨_, rfl⟩
      have B5 : Hid (Below W4.heap.size W4 W5) := by rw [hW5]; exact hb5.alloc hb5.size _
      have BW5 := Lib.hid (BW4.out.trans (B5.out.mono BW4.out.size))
      obtain ⟨y0, y1⟩ := opBox_cells (kept_block KA4.out B5.out)
      obtain ⟨q0, q1⟩ := opBox_cells (kept_block KB4.out B5.out)
      obtain ⟨o0, o1⟩ := opP_cells (kept_block K4.out B5.out)
      simp only at y0 y1 q0 q1
      clear hb5 x0 x1
      go_upto_region 11 with fail
      rw [← hW5]
      clear hW5
      go_wp2_with fail
      all_goals (go_ret; exact ⟨ret_bool J2.out.symm, BW5.out⟩)
    | some r =>
      have HR := Lib.hid hr
      go_wp2_with (first | (go_at_call 30; refine stopAt ?_))
      unfold StopAt
      refine (rresult_some W4 B d l hl (HB.out.below BW4.out) tb ib r HR.out).mono ?_
      rintro e w5 ⟨rfl, hb5⟩
      obtain ⟨W5, hW5⟩ : ∃ W5, W5 = w5.alloc (.cells #[.int .i64 r.err, .bool r.found, .int .u64 r.value, .string r.key, .int .i64 r.count, .int .i64 r.ref, .int .i64 r.root, .bool r.ro] 45) := ⟨_, rfl⟩
      have B5 : Hid (Below W4.heap.size W4 W5) := by rw [hW5]; exact hb5.alloc hb5.size _
      have K5 : Hid (W5.heap[w5.heap.size]? = some (.cells #[.int .i64 r.err, .bool r.found, .int .u64 r.value, .string r.key, .int .i64 r.count, .int .i64 r.ref, .int .i64 r.root, .bool r.ro] 45 (0, 0))) := by rw [hW5]; exact (heap_alloc w5 _).1
      have BW5 := Lib.hid (BW4.out.trans (B5.out.mono BW4.out.size))
      have KA5 := Lib.hid (kept_block KA4.out B5.out)
      have K4b := Lib.hid (kept_block K4.out B5.out)
      have KB5 := Lib.hid (kept_block KB4.out B5.out)
      have s0 := blk_cell K5.out 0
      simp only [List.getElem?_toArray, List.getElem?_cons_zero] at s0
      obtain ⟨y0, y1⟩ := opBox_cells KA5.out
      obtain ⟨q0, q1⟩ := opBox_cells KB5.out
      obtain ⟨o0, o1⟩ := opP_cells K4b.out
      simp only at y0 y1 q0 q1
      clear hb5 x0 x1
      go_upto_region 11 with fail
      rw [← hW5]
      clear hW5
      by_cases r1 : r.err = 0
      case neg =>
        have r1b : (r.err == 0) = false := by simpa using r1
        have r1c : (r.err != 0) = true := by simpa using r1
        have J2 := Lib.hid (show justP ts l ((t : Int), (i : Int)) = true by rw [J.out]; unfold lateP; rw [hr]; simp [r1])
        clear hr
        go_wp2_with fail
        all_goals (go_ret; exact ⟨ret_bool J2.out.symm, BW5.out⟩)
      have J2 := Lib.hid (show justP ts l ((t : Int), (i : Int)) = (misP ok bk tb t || !beforeP l ((tb : Int), (ib : Int)) ((t : Int), (i : Int))) by rw [J.out]; unfold lateP; rw [hr]; simp [r1])
      obtain ⟨re, rf, rv, rk, rc, rr, ro, rb⟩ := r
      simp only at r1 s0
      subst r1
      clear hr
      go_wp2_with (first | (go_at_call 27; refine stopAt ?_))
      unfold StopAt
      refine (before_any W5 B d l hl (HB.out.below BW5.out) tb ib t i).mono ?_
      rintro e w6 ⟨rfl, hb6⟩
      have BW6 := Lib.hid (BW5.out.trans (hb6.mono BW5.out.size))
      have KA6 := Lib.hid (kept_block KA5.out hb6)
      have KB6 := Lib.hid (kept_block KB5.out hb6)
      have K6 := Lib.hid (kept_block K4b.out hb6)
      clear hb6 y0 y1 q0 q1 o0 o1 s0
      obtain ⟨y0, y1⟩ := opBox_cells KA6.out
      obtain ⟨q0, q1⟩ := opBox_cells KB6.out
      obtain ⟨o0, o1⟩ := opP_cells K6.out
      simp only at y0 y1 q0 q1
      cases hbf : beforeP l ((tb : Int), (ib : Int)) ((t : Int), (i : Int)) with
      | false =>
        have R := Lib.hid (show justP ts l ((t : Int), (i : Int)) = true by rw [J2.out, hbf]; simp)
        clear hbf
        go_wp2_with fail
        all_goals (go_ret; exact ⟨ret_bool R.out.symm, BW6.out⟩)
      | true =>
        have J3 := Lib.hid (show justP ts l ((t : Int), (i : Int)) = misP ok bk tb t by rw [J2.out, hbf]; simp)
        clear hbf
        by_cases m1 : bk = 8
        · subst m1
          have R := Lib.hid (show justP ts l ((t : Int), (i : Int)) = false by rw [J3.out]; simp [misP, c3a])
          go_wp2_with fail
          go_ret
          exact ⟨ret_bool R.out.symm, BW6.out⟩
        by_cases m2 : bk = 9
        · subst m2
          have R := Lib.hid (show justP ts l ((t : Int), (i : Int)) = false by rw [J3.out]; simp [misP, c3a])
          go_wp2_with fail
          go_ret
          exact ⟨ret_bool R.out.symm, BW6.out⟩
        have m1b : (bk == 8) = false := by simpa using m1
        have m2b : (bk == 9) = false := by simpa using m2
        have m1c : (bk != 8) = true := by simpa using m1
        have m2c : (bk != 9) = true := by simpa using m2
        have R := Lib.hid (show justP ts l ((t : Int), (i : Int)) = true by rw [J3.out]; simp [misP, c3a, m1, m2])
        go_wp2_with fail
        go_ret
        exact ⟨ret_bool R.out.symm, BW6.out⟩
end Go.Proofs.YtbmoehndnbbhcaaGreatDoor
namespace Go.Proofs.YtbmoehndnbbhcaaGreatDoor
set_option linter.unusedVariables false
set_option linter.unusedSimpArgs false
open Go Go.RowKit Go.MapKept
open Classical in
noncomputable def properB (ops : List Nat) (l : List EvD) : Bool := decide (ProperP ops l)
open Classical in
theorem properB_bad {ops : List Nat} {l : List EvD} (h : ¬ ProperP ops l) : properB ops l = false := by unfold properB; rw [decide_eq_false_iff_not]; exact h
open Classical in
theorem properB_ok {ops : List Nat} {l : List EvD} (h : ProperP ops l) : properB ops l = true := by unfold properB; rw [decide_eq_true_eq]; exact h
def HpRel (w : World) (ops : List Nat) (l : List EvD) (T : TypeId) (i : Value) (wr : World) : Prop :=
  ∃ j : Nat, j ≤ l.length ∧ i = .int .i64 j ∧ (∀ k e, k < j → l[k]? = some e → EvOk ops l k e) ∧ wr.heap[w.heap.size]? = some (.cells (intCells (cnts 8 l j)).toArray T (0, 0)) ∧ Below w.heap.size w wr
theorem kept_block' {W0 W : World} {b : Nat} {o : Obj} (h : W0.heap[b]? = some o) (hb : Below W0.heap.size W0 W) : W.heap[b]? = some o := (hb.block b (Array.getElem?_eq_some_iff.1 h).1).trans h
theorem ev_box {w : World} {th ix : Int} {rt : Bool} {rs : ResF} {T : TypeId} {b : Nat} (h : w.heap[b]? = some (.cells #[.int .i64 th, .int .i64 ix, .bool rt, .int .i64 rs.err, .bool rs.found, .int .u64 rs.value, .string rs.key, .int .i64 rs.count, .int .i64 rs.ref, .int .i64 rs.root, .bool rs.ro] T (0, 0))) :
    w.cell? ⟨b, 0, none⟩ = some (.int .i64 th) ∧ w.cell? ⟨b, 1, none⟩ = some (.int .i64 ix) ∧ w.cell? ⟨b, 2, none⟩ = some (.bool rt) ∧ w.cell? ⟨b, 3, none⟩ = some (.int .i64 rs.err) ∧ w.cell? ⟨b, 4, none⟩ = some (.bool rs.found) ∧ w.cell? ⟨b, 5, none⟩ = some (.int .u64 rs.value) ∧
    w.cell? ⟨b, 6, none⟩ = some (.string rs.key) ∧ w.cell? ⟨b, 7, none⟩ = some (.int .i64 rs.count) ∧ w.cell? ⟨b, 8, none⟩ = some (.int .i64 rs.ref) ∧ w.cell? ⟨b, 9, none⟩ = some (.int .i64 rs.root) ∧ w.cell? ⟨b, 10, none⟩ = some (.bool rs.ro) :=
  ⟨blk_cell h 0, blk_cell h 1, blk_cell h 2, blk_cell h 3, blk_cell h 4, blk_cell h 5, blk_cell h 6, blk_cell h 7, blk_cell h 8, blk_cell h 9, blk_cell h 10⟩
set_option maxRecDepth 100000 in
set_option maxHeartbeats 4000000 in
theorem hproper_any (w : World) (A B : Option Addr) (c d : Nat) (ts : List (List OpD)) (l : List EvD) (hA : ThrAt w A ts) (hB : EvsAt w B l) (ft : ThrFit ts) (fe : EvsFit l) (h8 : ts.length ≤ 8) :
    Calls Tryz.prog 31 #[.slice A ts.length c, .slice B l.length d] w fun e w' => e = .returned (.bool (properB (lens ts) l)) ∧ Below w.heap.size w w' := by
  have HA := Lib.hid hA
  have HB := Lib.hid hB
  have FE := Lib.hid fe
  have HE := Lib.hid ft.each
  have hl2 := fe.len
  clear hA hB ft fe
  go_enter Tryz.func31, Tryz.ntmps31
  go_wp2_with fail
  have C0 : Hid ((w.alloc (.cells #[.int .i64 0, .int .i64 0, .int .i64 0, .int .i64 0, .int .i64 0, .int .i64 0, .int .i64 0, .int .i64 0] 124)).heap[w.heap.size]? = some (.cells (intCells (cnts 8 l 0)).toArray 124 (0, 0))) := by rw [cnts_zero]; exact (heap_alloc w _).1
  have B0 := Lib.hid (balZ (Below.refl w.heap.size w) (.cells #[.int .i64 0, .int .i64 0, .int .i64 0, .int .i64 0, .int .i64 0, .int .i64 0, .int .i64 0, .int .i64 0] 124))
  go_loopw [11] (fun i wr => HpRel w (lens ts) l 124 i wr) (fun i _ => l.length - (intOf i).toNat)
  case atStart => exact ⟨0, by omega, rfl, fun k e hk => by omega, C0.out, B0.out⟩
  case round =>
    obtain ⟨j, hj, rfl, hok, hcs, hbr⟩ := hrel
    have OK := Lib.hid hok
    have CS := Lib.hid hcs
    have BR := Lib.hid hbr
    clear hok hcs hbr
    by_cases hlt : j < l.length
    · obtain ⟨e, hx⟩ : ∃ e, l[j]? = some e := ⟨_, List.getElem?_eq_getElem hlt⟩
      obtain ⟨b, off, rfl, hb, hc⟩ := (HB.out.below BR.out) (by omega)
      have hmem := List.mem_of_getElem? hx
      have ft := FE.out.thread e hmem
      have fi := FE.out.index e hmem
      obtain ⟨e0, e1, e2⟩ := ev_cells (hc j e hx)
      obtain ⟨g0, g1, g2, g3, g4, g5, g6, g7⟩ := ev_res (hc j e hx)
      have hj0 : (0 : Int) ≤ j := by omega
      have hj1 : (j : Int) < l.length := by omega
      have HX := Lib.hid hx
      clear hx hc hmem
      unfold I64 at ft fi
      obtain ⟨th, ix, rt, rs⟩ := e
      simp only at e0 e1 e2 g0 g1 g2 g3 g4 g5 g6 g7 ft fi
      go_upto_region 5 with fail
      obtain ⟨W1, hW1⟩ : ∃ W1, W1 = wr.alloc (.cells #[.int .i64 th, .int .i64 ix, .bool rt, .int .i64 rs.err, .bool rs.found, .int .u64 rs.value, .string rs.key, .int .i64 rs.count, .int .i64 rs.ref, .int .i64 rs.root, .bool rs.ro] 47) := ⟨_, rfl⟩
      have B1 : Hid (Below wr.heap.size wr W1) := by rw [hW1]; exact balZ (Below.refl _ _) _
      have KV : Hid (W1.heap[wr.heap.size]? = some (.cells #[.int .i64 th, .int .i64 ix, .bool rt, .int .i64 rs.err, .bool rs.found, .int .u64 rs.value, .string rs.key, .int .i64 rs.count, .int .i64 rs.ref, .int .i64 rs.root, .bool rs.ro] 47 (0, 0))) := by rw [hW1]; exact (heap_alloc wr _).1
      have BW1 := Lib.hid (BR.out.trans (B1.out.mono BR.out.size))
      have CS1 := Lib.hid (kept_block' CS.out B1.out)
      rw [← hW1]
      clear hW1 e0 e1 e2 g0 g1 g2 g3 g4 g5 g6 g7
      obtain ⟨y0, y1, _⟩ := ev_box KV.out
      by_cases t0 : th < 0
      · have R : Hid (properB (lens ts) l = false) := properB_bad fun hp => by have := (hp j _ HX.out).t0; simp only at this; omega
        have d0 : decide (th < 0) = true := by simpa using t0
        go_quiet (fail)
        go_wp2_with fail
        go_ret
        exact ⟨ret_bool R.out.symm, below_drewN BW1.out _⟩
      have d0 : decide (th < 0) = false := by simpa using t0
      by_cases t1 : ts.length ≤ th
      · have R : Hid (properB (lens ts) l = false) := properB_bad fun hp => by have := (hp j _ HX.out).t1; rw [lens_len] at this; simp only at this; omega
        have d1 : decide (ts.length ≤ th) = true := by simpa using t1
        go_quiet (fail)
        go_wp2_with fail
        go_ret
        exact ⟨ret_bool R.out.symm, below_drewN BW1.out _⟩
      have d1 : decide (ts.length ≤ th) = false := by simpa using t1
      obtain ⟨t, rfl⟩ : ∃ t : Nat, th = t := ⟨th.toNat, by omega⟩
      have tl : t < ts.length := by omega
      have d1' : decide (ts.length ≤ t) = false := by simpa using tl
      obtain ⟨tt, htt⟩ : ∃ tt, ts[t]? = some tt := ⟨_, List.getElem?_eq_getElem tl⟩
      have hcn := cnts_get (n := 8) (l := l) (i := j) (t := t) (by omega)
      have hcj := cntT_le l j t
      have C1 := Lib.hid (And.intro hcn htt)
      generalize hcg : cntT l j (t : Int) = c at *
      have CG := Lib.hid hcg
      clear hcg
      have LM := Lib.hid (fun (hp : ProperP (lens ts) l) => (hp j _ HX.out).lim tt.length (by simpa using lens_get htt))
      by_cases x0 : ix < 0
      · have R : Hid (properB (lens ts) l = false) := properB_bad fun hp => by have := (hp j _ HX.out).idx; simp only at this; omega
        have d2 : decide (ix < 0) = true := by simpa using x0
        clear hcn htt
        go_quiet (fail)
        go_wp2_with fail
        go_ret
        exact ⟨ret_bool R.out.symm, below_drewN BW1.out _⟩
      have d2 : decide (ix < 0) = false := by simpa using x0
      obtain ⟨a, offA, rfl, ha, hac⟩ := HA.out (by omega)
      obtain ⟨u, cu, k1, _⟩ := hac t tt htt
      have z1 := (BW1.out.cell (p := ⟨a, _, none⟩) ha).trans k1
      have tt1 := HE.out tt (List.mem_of_getElem? htt)
      clear hac k1 hcn htt
      by_cases x1 : tt.length ≤ ix
      · have R : Hid (properB (lens ts) l = false) := properB_bad fun hp => by
          have h1 := (hp j _ HX.out).idx
          have h2 := LM.out hp
          simp only at h1 h2
          omega
        have d3 : decide (tt.length ≤ ix) = true := by simpa using x1
        go_quiet (fail)
        go_wp2_with fail
        go_ret
        exact ⟨ret_bool R.out.symm, below_drewN BW1.out _⟩
      have d3 : decide (tt.length ≤ ix) = false := by simpa using x1
      go_quiet (fail)
      have B2 : Hid (Below W1.heap.size W1 (W1.drewN nq)) := below_drewN (Below.refl _ _) _
      have CS2 := Lib.hid (kept_block' CS1.out B2.out)
      have KV2 := Lib.hid (kept_block' KV.out B2.out)
      have BW2 := Lib.hid (BW1.out.trans (B2.out.mono BW1.out.size))
      generalize W1.drewN nq = W2 at *
      clear y0 y1 z1 B2 KV CS1 d0 d1 d1' d2 d3
      obtain ⟨y0, y1, y2, y3, y4, y5, y6, y7, y8, y9, y10⟩ := ev_box KV2.out
      have hcc := int_cell CS2.out C1.out.1
      have fz := cells_free CS2.out
      have t8 : (t : Int) < 8 := by omega
      have tz : (0 : Int) ≤ t := by omega
      have c0' : (0 : Int) ≤ (c : Int) / 2 := by omega
      by_cases h1 : ix = (c : Int) / 2
      case neg =>
        have R : Hid (properB (lens ts) l = false) := properB_bad fun hp => by have := (hp j _ HX.out).idx; rw [CG.out] at this; simp only at this; omega
        have h1b : (ix == (c : Int) / 2) = false := by simpa using h1
        clear y3 y4 y5 y6 y7 y8 y9 y10
        go_wp2_with fail
        go_ret
        exact ⟨ret_bool R.out.symm, BW2.out⟩
      subst h1
      have GO : Hid (EvOk (lens ts) l j ⟨t, (c : Int) / 2, rt, rs⟩ → HpRel w (lens ts) l 124 (.int .i64 ((j : Int) + 1)) (W2.setCell ⟨w.heap.size, t, none⟩ (.int .i64 ((c : Int) + 1)))) := fun hok => by
        refine ⟨j + 1, by omega, by go_num, fun k y hk hy => ?_, ?_, BW2.out.setCell (p := ⟨w.heap.size, t, none⟩) (Nat.le_refl _) _⟩
        · by_cases hkj : k = j
          · subst hkj
            rw [HX.out] at hy
            obtain rfl := Option.some.inj hy
            exact hok
          · exact OK.out k y (by omega) hy
        · rw [cnts_succ HX.out rfl (by omega), CG.out]
          exact int_store CS2.out t (c + 1)
      have G1 : Hid (rt = ((c : Int) % 2 == 1) → (rt = false → rs = ResF.zero) → EvOk (lens ts) l j ⟨t, (c : Int) / 2, rt, rs⟩) := fun hr hz => by
        refine ⟨by simp, by rw [lens_len]; show (t : Int) < _; omega, ?_, fun n hn => ?_, ?_, hz⟩
        · show (c : Int) / 2 = _
          rw [CG.out]; omega
        · rw [show (⟨t, (c : Int) / 2, rt, rs⟩ : EvD).thread.toNat = t by simp, lens_get C1.out.2] at hn
          obtain rfl := Option.some.inj hn
          rw [CG.out]; omega
        · show rt = _
          rw [hr, CG.out, Bool.eq_iff_iff]
          simp only [beq_iff_eq]
          omega
      by_cases hpar : (c : Int) % 2 = 1
      · have hpb : ((c : Int) % 2 == 1) = true := by simpa using hpar
        cases rt with
        | false =>
          have R : Hid (properB (lens ts) l = false) := properB_bad fun hp => by
            have := (hp j _ HX.out).ret
            rw [CG.out] at this
            have h3 : (c % 2 == 1) = true := by simp; omega
            rw [h3] at this
            simp at this
          clear y3 y4 y5 y6 y7 y8 y9 y10 fz
          go_wp2_with fail
          go_ret
          exact ⟨ret_bool R.out.symm, BW2.out⟩
        | true =>
          have G2 := Lib.hid (GO.out (G1.out hpb.symm (by simp)))
          clear y3 y4 y5 y6 y7 y8 y9 y10
          go_wp2_with fail
          go_roundw
          case rel => exact G2.out
          case measure => simp [intOf]; omega
      · have hpb : ((c : Int) % 2 == 1) = false := by simpa using hpar
        cases rt with
        | true =>
          have R : Hid (properB (lens ts) l = false) := properB_bad fun hp => by
            have := (hp j _ HX.out).ret
            rw [CG.out] at this
            have h3 : (c % 2 == 1) = false := by simp; omega
            rw [h3] at this
            simp at this
          clear y3 y4 y5 y6 y7 y8 y9 y10 fz
          go_wp2_with fail
          go_ret
          exact ⟨ret_bool R.out.symm, BW2.out⟩
        | false =>
          by_cases hz : rs = ResF.zero
          · have G2 := Lib.hid (GO.out (G1.out hpb.symm (fun _ => hz)))
            subst hz
            simp only [ResF.zero] at y3 y4 y5 y6 y7 y8 y9 y10
            go_wp2_with fail
            go_roundw
            case rel => exact G2.out
            case measure => simp [intOf]; omega
          · have HZ := Lib.hid hz
            have R : Hid (properB (lens ts) l = false) := properB_bad fun hp => hz ((hp j _ HX.out).res rfl)
            clear hz fz
            go_wp2_with fail
            all_goals first
              | (exfalso; exact HZ.out (res_zero_of (by assumption) (by assumption) (by assumption) (by assumption) (by assumption) (by assumption) (by assumption) (by assumption)))
              | (go_ret; exact ⟨ret_bool R.out.symm, BW2.out⟩)
    · have R : Hid (properB (lens ts) l = true) := properB_ok fun k e he => OK.out k e (by have := (List.getElem?_eq_some_iff.1 he).1; omega) he
      go_wp2_with fail
      go_ret
      exact ⟨ret_bool R.out.symm, BR.out⟩
end Go.Proofs.YtbmoehndnbbhcaaGreatDoor
namespace Go.Proofs.YtbmoehndnbbhcaaGreatDoor
set_option linter.unusedVariables false
set_option linter.unusedSimpArgs false
open Go Go.RowKit Go.MapKept
set_option maxRecDepth 100000 in
set_option maxHeartbeats 2000000 in
theorem hcheck_any (w : World) (A B : Option Addr) (c d : Nat) (ts : List (List OpD)) (l : List EvD) (hA : ThrAt w A ts) (hB : EvsAt w B l) (ft : ThrFit ts) (fe : EvsFit l) :
    Calls Tryz.prog 12 #[.slice A ts.length c, .slice B l.length d] w fun e w' => e = .returned (.int .i64 (checkP (lens ts) l)) ∧ Below w.heap.size w w' := by
  have HA := Lib.hid hA
  have HB := Lib.hid hB
  have FE := Lib.hid fe
  have FT := Lib.hid ft
  have hl1 := ft.len
  have HE := Lib.hid ft.each
  clear hA hB ft fe
  by_cases h8 : 8 < ts.length
  · have R := Lib.hid (check_big (l := l) (ops := lens ts) (Or.inl (by rw [lens_len]; exact h8)))
    go_enter Tryz.func12, Tryz.ntmps12
    go_wp2_with fail
    go_ret
    exact ⟨ret_int R.out.symm, Below.refl _ _⟩
  go_enter Tryz.func12, Tryz.ntmps12
  go_wp2_with fail
  go_loop [12] (fun i => SmallTo ts i) (fun i => ts.length - (intOf i).toNat)
  case atStart => exact ⟨0, by omega, rfl, fun k x hk => by omega⟩
  case round =>
    obtain ⟨j, hj, rfl, hne⟩ := hrel
    have NE := Lib.hid hne
    clear hne
    by_cases hlt : j < ts.length
    · obtain ⟨t, ht⟩ : ∃ t, ts[j]? = some t := ⟨_, List.getElem?_eq_getElem hlt⟩
      obtain ⟨b, off, rfl, hb, hc⟩ := HA.out (by omega)
      obtain ⟨u, cu, c0, _⟩ := hc j t ht
      have hj0 : (0 : Int) ≤ j := by omega
      have hj1 : (j : Int) < ts.length := by omega
      have htl := HE.out t (List.mem_of_getElem? ht)
      have HX := Lib.hid ht
      clear ht hc
      by_cases hn : 16 < t.length
      · have R := Lib.hid (check_big (l := l) (big_of HX.out hn))
        go_wp2_with fail
        go_ret
        exact ⟨ret_int R.out.symm, Below.refl _ _⟩
      · go_wp2_with fail
        go_round
        case rel =>
          refine ⟨j + 1, by omega, by go_num, fun k y hk hy => ?_⟩
          by_cases hkj : k = j
          · subst hkj
            rw [HX.out] at hy
            obtain rfl := Option.some.inj hy
            omega
          · exact NE.out k y (by omega) hy
        case measure => simp [intOf]; omega
    · have SM := Lib.hid (small_of h8 fun k t hk ht => NE.out k t (by omega) ht)
      go_wp2_with (go_at_call 31; refine stopAt ?_)
      unfold StopAt
      refine (hproper_any w A B c d ts l HA.out HB.out FT.out FE.out (by omega)).mono ?_
      rintro e w1 ⟨rfl, hb1⟩
      have B1 := Lib.hid hb1
      clear hb1
      by_cases hp : ProperP (lens ts) l
      · rw [properB_ok hp]
        have R := Lib.hid (check_ok SM.out hp)
        clear hp
        go_wp2_with fail
        go_ret
        exact ⟨ret_int R.out.symm, B1.out⟩
      · rw [properB_bad hp]
        have R := Lib.hid (check_bad SM.out hp)
        clear hp
        go_wp2_with fail
        go_ret
        exact ⟨ret_int R.out.symm, B1.out⟩
end Go.Proofs.YtbmoehndnbbhcaaGreatDoor
