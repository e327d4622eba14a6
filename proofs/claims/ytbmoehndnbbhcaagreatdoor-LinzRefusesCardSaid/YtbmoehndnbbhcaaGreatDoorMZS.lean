/- The walk of package linz' justifies. The walk of package linz' justified. Package linz' record under construction: memory. No walk in sight. -/
import Derived.Test.YtbmoehndnbbhcaaGreatDoorMZJ
import Derived.Test.YtbmoehndnbbhcaaGreatDoorMFamB
namespace Go.Proofs.YtbmoehndnbbhcaaGreatDoor
set_option linter.unusedVariables false
set_option linter.unusedSimpArgs false
open Go Go.RowKit Go.MapKept
theorem kept_block {W0 W : World} {b : Nat} {o : Obj} (h : W0.heap[b]? = some o) (hb : Below W0.heap.size W0 W) : W.heap[b]? = some o := (hb.block b (Array.getElem?_eq_some_iff.1 h).1).trans h
theorem just_bad {ts : List (List OpD)} {l : List EvD} {a : OpP} {o : OpD} (h : opAt ts a = o) (hk : o.kind < 1 ∨ 13 < o.kind ∨ (o.kind ≠ 13 ∧ o.handle = 0)) : justP ts l a = false := by
  unfold justP; rw [h, if_pos hk]
theorem just_none {ts : List (List OpD)} {l : List EvD} {a : OpP} {o : OpD} (h : opAt ts a = o) (hk : ¬ (o.kind < 1 ∨ 13 < o.kind ∨ (o.kind ≠ 13 ∧ o.handle = 0))) (hn : numP (lens ts) o.handle = none) : justP ts l a = true := by
  unfold justP; rw [h, if_neg hk, hn]
theorem just_some {ts : List (List OpD)} {l : List EvD} {a b : OpP} {o ob : OpD} (h : opAt ts a = o) (hk : ¬ (o.kind < 1 ∨ 13 < o.kind ∨ (o.kind ≠ 13 ∧ o.handle = 0))) (hn : numP (lens ts) o.handle = some b) (hb : opAt ts b = ob) : justP ts l a = (misP o.kind ob.kind b.1 a.1 || lateP l a b) := by
  unfold justP; rw [h, if_neg hk, hn]; simp only [hb]
theorem opO_cells {W : World} {b : Nat} {o : OpD} {T : TypeId} (h : W.heap[b]? = some (.cells #[.int .i64 o.kind, .int .i64 o.handle, .string o.key, .int .u64 o.value, .int .u64 o.expect] T (0, 0))) : W.cell? ⟨b, 0, none⟩ = some (.int .i64 o.kind) ∧ W.cell? ⟨b, 1, none⟩ = some (.int .i64 o.handle) := ⟨blk_cell h 0, blk_cell h 1⟩
theorem part_int (w : World) (xs : Array Value) (i : Nat) (z : Int) (h : xs[i]? = some (.int .i64 z)) : (part 3 xs i).run Tryz.prog w = .ok (.int .i64 z) w := by
  obtain ⟨i0, hi, hz0, hz1, hz2⟩ := info_parts3 intInfo
  simp [part, run_underlying Tryz.underlying3, typeInfo, hi, hz1, h]
theorem run_field_op (k hh v e : Int) (s : ByteArray) (W : World) : (Instr.field 60 (.agg #[.int .i64 k, .int .i64 hh, .string s, .int .u64 v, .int .u64 e]) 0).run Tryz.prog W = .ok (.int .i64 k) W := by
  simp [Instr.field, run_underlying Tryz.underlying60, asAgg]
  exact part_int W _ 0 k rfl
theorem run_field_span (si sr e : Int) (f : Bool) (v : Int) (k : ByteArray) (c r x : Int) (y : Bool) (W : World) : (Instr.field 63 (.agg #[.int .i64 si, .int .i64 sr, .int .i64 e, .bool f, .int .u64 v, .string k, .int .i64 c, .int .i64 r, .int .i64 x, .bool y]) 0).run Tryz.prog W = .ok (.int .i64 si) W := by
  simp [Instr.field, run_underlying Tryz.underlying63, asAgg]
  exact part_int W _ 0 si rfl
theorem opP_cells {W : World} {b : Nat} {k hh v e : Int} {s : ByteArray} {T : TypeId} (h : W.heap[b]? = some (.cells #[.int .i64 k, .int .i64 hh, .string s, .int .u64 v, .int .u64 e] T (0, 0))) : W.cell? ⟨b, 0, none⟩ = some (.int .i64 k) ∧ W.cell? ⟨b, 1, none⟩ = some (.int .i64 hh) := ⟨blk_cell h 0, blk_cell h 1⟩
set_option maxRecDepth 100000 in
set_option maxHeartbeats 4000000 in
theorem ljust_any (w : World) (rb : Nat) (ts : List (List OpD)) (l : List EvD) (h : RecOk w rb ts l) (a0 a1 : Int) (hex : ExP (lens ts) (a0, a1)) (hinv : whenP l (a0, a1) false ≠ -1) :
    Calls Tryz.prog 34 #[.pointer (some ⟨rb, 0, none⟩), .agg #[.int .i64 a0, .int .i64 a1]] w fun e w' => e = .returned (.bool (justP ts l (a0, a1))) ∧ Below w.heap.size w w' := by
  have H := Lib.hid h
  have IV := Lib.hid hinv
  obtain ⟨t, i, tt, o, hta, ht, ho, hop⟩ := exP_get hex
  simp only [Prod.mk.injEq] at hta
  obtain ⟨rfl, rfl⟩ := hta
  have HT := Lib.hid ht
  have HI := Lib.hid ho
  have HP := Lib.hid hop
  clear h hinv hex ht ho hop
  go_enter Tryz.func34, Tryz.ntmps34
  go_upto_region 1 with fail
  obtain ⟨W0, hW0⟩ : ∃ W0, W0 = w.alloc (.cells #[.int .i64 t, .int .i64 i] 37) := ⟨_, rfl⟩
  have BX : Hid (Below w.heap.size w W0) := by rw [hW0]; exact balZ (Below.refl _ _) _
  have KA : Hid (W0.heap[w.heap.size]? = some (opBox (t, i))) := by rw [hW0]; exact (heap_alloc w _).1
  rw [← hW0]
  clear hW0
  obtain ⟨y0, y1⟩ := opBox_cells KA.out
  go_wp2_with (first | (go_at_call 22; refine stopAt ?_))
  unfold StopAt
  refine (lop_any W0 rb ts _ (H.out.below BX.out).at_ H.out.fit t i tt o HT.out HI.out).mono ?_
  rintro e w1 ⟨rfl, hb1⟩
  obtain ⟨W1, hW1⟩ : ∃ W1, W1 = w1.alloc (.cells #[.int .i64 o.kind, .int .i64 o.handle, .string o.key, .int .u64 o.value, .int .u64 o.expect] 60) := ⟨_, rfl⟩
  have B1 : Hid (Below W0.heap.size W0 W1) := by rw [hW1]; exact hb1.alloc hb1.size _
  have K1 : Hid (W1.heap[w1.heap.size]? = some (.cells #[.int .i64 o.kind, .int .i64 o.handle, .string o.key, .int .u64 o.value, .int .u64 o.expect] 60 (0, 0))) := by rw [hW1]; exact (heap_alloc w1 _).1
  have BW1 := Lib.hid (BX.out.trans (B1.out.mono BX.out.size))
  have KA1 := Lib.hid (kept_block KA.out B1.out)
  clear hb1 y0 y1
  go_upto_region 2 with fail
  rw [← hW1]
  clear hW1
  obtain ⟨o0, o1⟩ := opO_cells K1.out
  by_cases c1 : o.kind < 1
  · have R := Lib.hid (just_bad (l := l) HP.out (Or.inl c1))
    go_wp2_with fail
    go_ret
    exact ⟨ret_bool R.out.symm, BW1.out⟩
  by_cases c2 : 13 < o.kind
  · have R := Lib.hid (just_bad (l := l) HP.out (Or.inr (Or.inl c2)))
    go_wp2_with fail
    go_ret
    exact ⟨ret_bool R.out.symm, BW1.out⟩
  by_cases c3 : o.kind ≠ 13 ∧ o.handle = 0
  · have R := Lib.hid (just_bad (l := l) HP.out (Or.inr (Or.inr c3)))
    obtain ⟨c31, c32⟩ := c3
    have c31b : (o.kind == 13) = false := by simpa using c31
    have c32b : (o.handle == 0) = true := by simpa using c32
    go_wp2_with fail
    go_ret
    exact ⟨ret_bool R.out.symm, BW1.out⟩
  have CK : Hid (¬ (o.kind < 1 ∨ 13 < o.kind ∨ (o.kind ≠ 13 ∧ o.handle = 0))) := by intro hh; rcases hh with hh | hh | hh <;> contradiction
  have c3b : o.kind = 13 ∨ (¬ o.kind = 13 ∧ (o.kind == 13) = false ∧ ¬ o.handle = 0 ∧ (o.handle == 0) = false) := by
    by_cases hk : o.kind = 13
    · exact Or.inl hk
    · exact Or.inr ⟨hk, by simpa using hk, fun hh => c3 ⟨hk, hh⟩, by simpa using fun hh => c3 ⟨hk, hh⟩⟩
  clear c3
  obtain ⟨ok, oh, okey, ov, oe⟩ := o
  simp only at c1 c2 c3b o0 o1 K1
  cases hn : numP (lens ts) oh with
  | none =>
    have R := Lib.hid (just_none (l := l) HP.out CK.out hn)
    have HN := Lib.hid hn
    clear hn
    rcases c3b with rfl | ⟨c3a, c3b, c4a, c4b⟩
    all_goals
      go_wp2_with (first | (go_at_call 55; refine stopAt ?_))
      unfold StopAt
      refine (lnumbered_any _ rb ts _ (H.out.below BW1.out).at_ H.out.fit oh).mono ?_
      rintro e w2 ⟨he, hb2⟩
      rw [HN.out] at he
      simp only [numOut] at he
      subst he
      have BW2 := Lib.hid (BW1.out.trans (hb2.mono BW1.out.size))
      clear hb2
      go_wp2_with fail
      go_ret
      exact ⟨ret_bool R.out.symm, balZ BW2.out _⟩
  | some b =>
    obtain ⟨tb, ib, ttb, ob, rfl, htb, hob, hopb⟩ := exP_get (numP_ex hn)
    have J := Lib.hid (just_some (l := l) HP.out CK.out hn hopb)
    have HN := Lib.hid hn
    have HTB := Lib.hid htb
    have HOB := Lib.hid hob
    clear hn htb hob hopb
    have EXB := Lib.hid (exP_get (ts := ts) (a := ((tb : Int), (ib : Int))))
    rcases c3b with rfl | ⟨c3a, c3b, c4a, c4b⟩
    all_goals
      go_wp2_with (first | (go_at_call 55; refine stopAt ?_))
      unfold StopAt
      refine (lnumbered_any _ rb ts _ (H.out.below BW1.out).at_ H.out.fit oh).mono ?_
      rintro e w2 ⟨he, hb2⟩
      rw [HN.out] at he
      simp only [numOut] at he
      subst he
      obtain ⟨W2, hW2⟩ : ∃ W2, W2 = w2.alloc (.cells #[.int .i64 tb, .int .i64 ib] 37) := ⟨_, rfl⟩
      have B2 : Hid (Below W1.heap.size W1 W2) := by rw [hW2]; exact hb2.alloc hb2.size _
      have KB2 : Hid (W2.heap[w2.heap.size]? = some (opBox (tb, ib))) := by rw [hW2]; exact (heap_alloc w2 _).1
      have BW2 := Lib.hid (BW1.out.trans (B2.out.mono BW1.out.size))
      have KA2 := Lib.hid (kept_block KA1.out B2.out)
      have K2 := Lib.hid (kept_block K1.out B2.out)
      clear hb2 o0 o1
      go_upto_region 7 with fail
      rw [← hW2]
      clear hW2
      obtain ⟨o0, o1⟩ := opP_cells K2.out
      obtain ⟨y0, y1⟩ := opBox_cells KB2.out
      go_wp2_with (first | (go_at_call 22; refine stopAt ?_))
      unfold StopAt
      refine (lop_any W2 rb ts _ (H.out.below BW2.out).at_ H.out.fit tb ib ttb ob HTB.out HOB.out).mono ?_
      rintro e w3 ⟨rfl, hb3⟩
      have B3 := Lib.hid hb3
      have BW3 := Lib.hid (BW2.out.trans (hb3.mono BW2.out.size))
      have KA3 := Lib.hid (kept_block KA2.out B3.out)
      have KB3 := Lib.hid (kept_block KB2.out B3.out)
      have K3 := Lib.hid (kept_block K2.out B3.out)
      clear hb3 o0 o1 y0 y1
      have FO := run_field_op ob.kind ob.handle ob.value ob.expect ob.key
      obtain ⟨o0, o1⟩ := opP_cells K3.out
      obtain ⟨y0, y1⟩ := opBox_cells KA3.out
      obtain ⟨x0, x1⟩ := opBox_cells KB3.out
      obtain ⟨bk, bh, bkey, bv, be⟩ := ob
      simp only at J
      go_upto_region 10 with fail
    · by_cases m1 : bk = 12
      · subst m1
        by_cases m2 : (tb : Int) = t
        · have m2b : ((tb : Int) == t) = true := by simpa using m2
          have J2 := Lib.hid (show justP ts l ((t : Int), (i : Int)) = lateP l ((t : Int), (i : Int)) ((tb : Int), (ib : Int)) by rw [J.out]; simp [misP, m2])
          go_upto_region 15 with fail
          clear m2 m2b
          go_wp2_with (first | (go_at_call 23; refine stopAt ?_))
          unfold StopAt
          refine (lspan_any w3 rb ts _ (H.out.below BW3.out).at_ H.out.fit tb ib ttb HTB.out (List.getElem?_eq_some_iff.1 HOB.out).1).mono ?_
          rintro e w4 ⟨rfl, hb4⟩
          have J3 := Lib.hid (J2.out.trans (late_eq (b := ((tb : Int), (ib : Int))) H.out.proper IV.out).symm)
          generalize hs : spanP l ((tb : Int), (ib : Int)) = s at *
          clear hs
          obtain ⟨si, sr, ⟨e, f, v, k, c, r, x, y⟩⟩ := s
          simp only [SpD.val]
          obtain ⟨W4, hW4⟩ : ∃ W4, W4 = w4.alloc (.cells #[.int .i64 si, .int .i64 sr, .int .i64 e, .bool f, .int .u64 v, .string k, .int .i64 c, .int .i64 r, .int .i64 x, .bool y] 63) := ⟨_, rfl⟩
          have B4 : Hid (Below w3.heap.size w3 W4) := by rw [hW4]; exact hb4.alloc hb4.size _
          have KS4 : Hid (W4.heap[w4.heap.size]? = some (.cells #[.int .i64 si, .int .i64 sr, .int .i64 e, .bool f, .int .u64 v, .string k, .int .i64 c, .int .i64 r, .int .i64 x, .bool y] 63 (0, 0))) := by rw [hW4]; exact (heap_alloc w4 _).1
          have BW4 := Lib.hid (BW3.out.trans (B4.out.mono BW3.out.size))
          have KA4 := Lib.hid (kept_block KA3.out B4.out)
          clear hb4 o0 o1 y0 y1 x0 x1
          go_upto_region 16 with fail
          rw [← hW4]
          clear hW4
          have KC : Hid (∀ W, Below W4.heap.size W4 W → (W.cell? ⟨w.heap.size, 0, none⟩ = some (.int .i64 t) ∧ W.cell? ⟨w.heap.size, 1, none⟩ = some (.int .i64 i)) ∧ W.cell? ⟨w4.heap.size, 1, none⟩ = some (.int .i64 sr) ∧ W.cell? ⟨w4.heap.size, 2, none⟩ = some (.int .i64 e)) :=
            fun W hW => ⟨opBox_cells (opBox_kept KA4.out hW), blk_cell (kept_block KS4.out hW) 1, blk_cell (kept_block KS4.out hW) 2⟩
          have SA : Hid (∀ W, Below W4.heap.size W4 W → Calls Tryz.prog 23 #[.pointer (some ⟨rb, 0, none⟩), .agg #[.int .i64 t, .int .i64 i]] W fun e w' => e = .returned (spanP l ((t : Int), (i : Int))).val ∧ Below W4.heap.size W4 w') :=
            fun W hW => (lspan_any W rb ts _ (H.out.below (BW4.out.trans (hW.mono BW4.out.size))).at_ H.out.fit t i tt HT.out (List.getElem?_eq_some_iff.1 HI.out).1).mono fun e w' p => ⟨p.1, hW.trans (p.2.mono hW.size)⟩
          have BD : Hid (Below W4.heap.size W4 W4.drew) := (Below.refl _ _).drew
          generalize hsa : spanP l ((t : Int), (i : Int)) = sa at *
          obtain ⟨ai, ar, ⟨ae, af, av, ak, ac, aR, ax, ay⟩⟩ := sa
          have J4 := Lib.hid (show justP ts l ((t : Int), (i : Int)) = (decide (sr = -1) || decide (e ≠ 0) || decide (ai < sr)) from J3.out)
          simp only [SpD.val] at SA
          have FS := run_field_span ai ar ae af av ak ac aR ax ay
          clear hsa J3
          by_cases r1 : sr = -1
          · subst r1
            have R := Lib.hid (show justP ts l ((t : Int), (i : Int)) = true by rw [J4.out]; simp)
            refine wp_region_class (C := fun W => Below W4.heap.size W4 W) (by kernel_rfl) (by kernel_rfl) BD.out ?_
            repeat (first | go_big_quiet_step (fail) | (refine' wpQuiet_take (by rfl) (fun W hW => ?_) ?_; rotate_left; (obtain ⟨⟨x0, x1⟩, x2, x3⟩ := KC.out W hW); go_simp; (first | rfl | (with_reducible exact SA.out W hW)); (simp only [Act.put, List.setIfInBounds_toArray, List.set_cons_zero, List.set_cons_succ])) | ((refine wpQuiet_skip (by rfl) ?_); (simp only [Act.put, List.setIfInBounds_toArray, List.set_cons_zero, List.set_cons_succ])))
            refine wpQuiet_nil ?_
            intro w7 hb7
            have B7 := Lib.hid (BW4.out.trans (hb7.mono BW4.out.size))
            clear hb7
            go_wp2_with fail
            go_ret
            exact ⟨ret_bool R.out.symm, B7.out⟩
          have r1b : (sr == -1) = false := by simpa using r1
          by_cases r2 : e = 0
          · subst r2
            cases r3 : decide (ai < sr) with
            | true =>
              have R := Lib.hid (show justP ts l ((t : Int), (i : Int)) = true by rw [J4.out, r3]; simp)
              refine wp_region_class (C := fun W => Below W4.heap.size W4 W) (by kernel_rfl) (by kernel_rfl) BD.out ?_
              repeat (first | go_big_quiet_step (fail) | (refine' wpQuiet_take (by rfl) (fun W hW => ?_) ?_; rotate_left; (obtain ⟨⟨x0, x1⟩, x2, x3⟩ := KC.out W hW); go_simp; (first | rfl | (with_reducible exact SA.out W hW)); (simp only [Act.put, List.setIfInBounds_toArray, List.set_cons_zero, List.set_cons_succ])) | ((refine wpQuiet_skip (by rfl) ?_); (simp only [Act.put, List.setIfInBounds_toArray, List.set_cons_zero, List.set_cons_succ])))
              refine wpQuiet_nil ?_
              intro w7 hb7
              have B7 := Lib.hid (BW4.out.trans (hb7.mono BW4.out.size))
              clear hb7
              go_wp2_with fail
              go_ret
              exact ⟨ret_bool R.out.symm, B7.out⟩
            | false =>
              have R := Lib.hid (show justP ts l ((t : Int), (i : Int)) = false by rw [J4.out, r3]; simp [r1])
              refine wp_region_class (C := fun W => Below W4.heap.size W4 W) (by kernel_rfl) (by kernel_rfl) BD.out ?_
              repeat (first | go_big_quiet_step (fail) | (refine' wpQuiet_take (by rfl) (fun W hW => ?_) ?_; rotate_left; (obtain ⟨⟨x0, x1⟩, x2, x3⟩ := KC.out W hW); go_simp; (first | rfl | (with_reducible exact SA.out W hW)); (simp only [Act.put, List.setIfInBounds_toArray, List.set_cons_zero, List.set_cons_succ])) | ((refine wpQuiet_skip (by rfl) ?_); (simp only [Act.put, List.setIfInBounds_toArray, List.set_cons_zero, List.set_cons_succ])))
              refine wpQuiet_nil ?_
              intro w7 hb7
              have B7 := Lib.hid (BW4.out.trans (hb7.mono BW4.out.size))
              clear hb7
              go_wp2_with fail
              go_ret
              exact ⟨ret_bool R.out.symm, B7.out⟩
          · have r2b : (e == 0) = false := by simpa using r2
            have r2c : (e != 0) = true := by simpa using r2
            have R := Lib.hid (show justP ts l ((t : Int), (i : Int)) = true by rw [J4.out]; simp [r2])
            refine wp_region_class (C := fun W => Below W4.heap.size W4 W) (by kernel_rfl) (by kernel_rfl) BD.out ?_
            repeat (first | go_big_quiet_step (fail) | (refine' wpQuiet_take (by rfl) (fun W hW => ?_) ?_; rotate_left; (obtain ⟨⟨x0, x1⟩, x2, x3⟩ := KC.out W hW); go_simp; (first | rfl | (with_reducible exact SA.out W hW)); (simp only [Act.put, List.setIfInBounds_toArray, List.set_cons_zero, List.set_cons_succ])) | ((refine wpQuiet_skip (by rfl) ?_); (simp only [Act.put, List.setIfInBounds_toArray, List.set_cons_zero, List.set_cons_succ])))
            refine wpQuiet_nil ?_
            intro w7 hb7
            have B7 := Lib.hid (BW4.out.trans (hb7.mono BW4.out.size))
            clear hb7
            go_wp2_with fail
            go_ret
            exact ⟨ret_bool R.out.symm, B7.out⟩
        · have m2b : ((tb : Int) == t) = false := by simpa using m2
          have J2 := Lib.hid (show justP ts l ((t : Int), (i : Int)) = true by rw [J.out]; simp [misP, m2])
          have R := Lib.hid (J2.out)
          go_wp2_with fail
          go_ret
          exact ⟨ret_bool R.out.symm, BW3.out⟩
      · have m1b : (bk == 12) = false := by simpa using m1
        have J2 := Lib.hid (show justP ts l ((t : Int), (i : Int)) = true by rw [J.out]; simp [misP, m1])
        have R := Lib.hid (J2.out)
        go_wp2_with fail
        go_ret
        exact ⟨ret_bool R.out.symm, BW3.out⟩
    · by_cases m1 : bk = 8
      · subst m1
        have J2 := Lib.hid (show justP ts l ((t : Int), (i : Int)) = lateP l ((t : Int), (i : Int)) ((tb : Int), (ib : Int)) by rw [J.out]; simp [misP, c3a])
        go_wp2_with (first | (go_at_call 23; refine stopAt ?_))
        unfold StopAt
        refine (lspan_any w3 rb ts _ (H.out.below BW3.out).at_ H.out.fit tb ib ttb HTB.out (List.getElem?_eq_some_iff.1 HOB.out).1).mono ?_
        rintro e w4 ⟨rfl, hb4⟩
        have J3 := Lib.hid (J2.out.trans (late_eq (b := ((tb : Int), (ib : Int))) H.out.proper IV.out).symm)
        generalize hs : spanP l ((tb : Int), (ib : Int)) = s at *
        clear hs
        obtain ⟨si, sr, ⟨e, f, v, k, c, r, x, y⟩⟩ := s
        simp only [SpD.val]
        obtain ⟨W4, hW4⟩ : ∃ W4, W4 = w4.alloc (.cells #[.int .i64 si, .int .i64 sr, .int .i64 e, .bool f, .int .u64 v, .string k, .int .i64 c, .int .i64 r, .int .i64 x, .bool y] 63) := ⟨_, rfl⟩
        have B4 : Hid (Below w3.heap.size w3 W4) := by rw [hW4]; exact hb4.alloc hb4.size _
        have KS4 : Hid (W4.heap[w4.heap.size]? = some (.cells #[.int .i64 si, .int .i64 sr, .int .i64 e, .bool f, .int .u64 v, .string k, .int .i64 c, .int .i64 r, .int .i64 x, .bool y] 63 (0, 0))) := by rw [hW4]; exact (heap_alloc w4 _).1
        have BW4 := Lib.hid (BW3.out.trans (B4.out.mono BW3.out.size))
        have KA4 := Lib.hid (kept_block KA3.out B4.out)
        clear hb4 o0 o1 y0 y1 x0 x1
        go_upto_region 16 with fail
        rw [← hW4]
        clear hW4
        have KC : Hid (∀ W, Below W4.heap.size W4 W → (W.cell? ⟨w.heap.size, 0, none⟩ = some (.int .i64 t) ∧ W.cell? ⟨w.heap.size, 1, none⟩ = some (.int .i64 i)) ∧ W.cell? ⟨w4.heap.size, 1, none⟩ = some (.int .i64 sr) ∧ W.cell? ⟨w4.heap.size, 2, none⟩ = some (.int .i64 e)) :=
          fun W hW => ⟨opBox_cells (opBox_kept KA4.out hW), blk_cell (kept_block KS4.out hW) 1, blk_cell (kept_block KS4.out hW) 2⟩
        have SA : Hid (∀ W, Below W4.heap.size W4 W → Calls Tryz.prog 23 #[.pointer (some ⟨rb, 0, none⟩), .agg #[.int .i64 t, .int .i64 i]] W fun e w' => e = .returned (spanP l ((t : Int), (i : Int))).val ∧ Below W4.heap.size W4 w') :=
          fun W hW => (lspan_any W rb ts _ (H.out.below (BW4.out.trans (hW.mono BW4.out.size))).at_ H.out.fit t i tt HT.out (List.getElem?_eq_some_iff.1 HI.out).1).mono fun e w' p => ⟨p.1, hW.trans (p.2.mono hW.size)⟩
        have BD : Hid (Below W4.heap.size W4 W4.drew) := (Below.refl _ _).drew
        generalize hsa : spanP l ((t : Int), (i : Int)) = sa at *
        obtain ⟨ai, ar, ⟨ae, af, av, ak, ac, aR, ax, ay⟩⟩ := sa
        have J4 := Lib.hid (show justP ts l ((t : Int), (i : Int)) = (decide (sr = -1) || decide (e ≠ 0) || decide (ai < sr)) from J3.out)
        simp only [SpD.val] at SA
        have FS := run_field_span ai ar ae af av ak ac aR ax ay
        clear hsa J3
        by_cases r1 : sr = -1
        · subst r1
          have R := Lib.hid (show justP ts l ((t : Int), (i : Int)) = true by rw [J4.out]; simp)
          refine wp_region_class (C := fun W => Below W4.heap.size W4 W) (by kernel_rfl) (by kernel_rfl) BD.out ?_
          repeat (first | go_big_quiet_step (fail) | (refine' wpQuiet_take (by rfl) (fun W hW => ?_) ?_; rotate_left; (obtain ⟨⟨x0, x1⟩, x2, x3⟩ := KC.out W hW); go_simp; (first | rfl | (with_reducible exact SA.out W hW)); (simp only [Act.put, List.setIfInBounds_toArray, List.set_cons_zero, List.set_cons_succ])) | ((refine wpQuiet_skip (by rfl) ?_); (simp only [Act.put, List.setIfInBounds_toArray, List.set_cons_zero, List.set_cons_succ])))
          refine wpQuiet_nil ?_
          intro w7 hb7
          have B7 := Lib.hid (BW4.out.trans (hb7.mono BW4.out.size))
          clear hb7
          go_wp2_with fail
          go_ret
          exact ⟨ret_bool R.out.symm, B7.out⟩
        have r1b : (sr == -1) = false := by simpa using r1
        by_cases r2 : e = 0
        · subst r2
          cases r3 : decide (ai < sr) with
          | true =>
            have R := Lib.hid (show justP ts l ((t : Int), (i : Int)) = true by rw [J4.out, r3]; simp)
            refine wp_region_class (C := fun W => Below W4.heap.size W4 W) (by kernel_rfl) (by kernel_rfl) BD.out ?_
            repeat (first | go_big_quiet_step (fail) | (refine' wpQuiet_take (by rfl) (fun W hW => ?_) ?_; rotate_left; (obtain ⟨⟨x0, x1⟩, x2, x3⟩ := KC.out W hW); go_simp; (first | rfl | (with_reducible exact SA.out W hW)); (simp only [Act.put, List.setIfInBounds_toArray, List.set_cons_zero, List.set_cons_succ])) | ((refine wpQuiet_skip (by rfl) ?_); (simp only [Act.put, List.setIfInBounds_toArray, List.set_cons_zero, List.set_cons_succ])))
            refine wpQuiet_nil ?_
            intro w7 hb7
            have B7 := Lib.hid (BW4.out.trans (hb7.mono BW4.out.size))
            clear hb7
            go_wp2_with fail
            go_ret
            exact ⟨ret_bool R.out.symm, B7.out⟩
          | false =>
            have R := Lib.hid (show justP ts l ((t : Int), (i : Int)) = false by rw [J4.out, r3]; simp [r1])
            refine wp_region_class (C := fun W => Below W4.heap.size W4 W) (by kernel_rfl) (by kernel_rfl) BD.out ?_
            repeat (first | go_big_quiet_step (fail) | (refine' wpQuiet_take (by rfl) (fun W hW => ?_) ?_; rotate_left; (obtain ⟨⟨x0, x1⟩, x2, x3⟩ := KC.out W hW); go_simp; (first | rfl | (with_reducible exact SA.out W hW)); (simp only [Act.put, List.setIfInBounds_toArray, List.set_cons_zero, List.set_cons_succ])) | ((refine wpQuiet_skip (by rfl) ?_); (simp only [Act.put, List.setIfInBounds_toArray, List.set_cons_zero, List.set_cons_succ])))
            refine wpQuiet_nil ?_
            intro w7 hb7
            have B7 := Lib.hid (BW4.out.trans (hb7.mono BW4.out.size))
            clear hb7
            go_wp2_with fail
            go_ret
            exact ⟨ret_bool R.out.symm, B7.out⟩
        · have r2b : (e == 0) = false := by simpa using r2
          have r2c : (e != 0) = true := by simpa using r2
          have R := Lib.hid (show justP ts l ((t : Int), (i : Int)) = true by rw [J4.out]; simp [r2])
          refine wp_region_class (C := fun W => Below W4.heap.size W4 W) (by kernel_rfl) (by kernel_rfl) BD.out ?_
          repeat (first | go_big_quiet_step (fail) | (refine' wpQuiet_take (by rfl) (fun W hW => ?_) ?_; rotate_left; (obtain ⟨⟨x0, x1⟩, x2, x3⟩ := KC.out W hW); go_simp; (first | rfl | (with_reducible exact SA.out W hW)); (simp only [Act.put, List.setIfInBounds_toArray, List.set_cons_zero, List.set_cons_succ])) | ((refine wpQuiet_skip (by rfl) ?_); (simp only [Act.put, List.setIfInBounds_toArray, List.set_cons_zero, List.set_cons_succ])))
          refine wpQuiet_nil ?_
          intro w7 hb7
          have B7 := Lib.hid (BW4.out.trans (hb7.mono BW4.out.size))
          clear hb7
          go_wp2_with fail
          go_ret
          exact ⟨ret_bool R.out.symm, B7.out⟩
      by_cases m2 : bk = 9
      · subst m2
        have J2 := Lib.hid (show justP ts l ((t : Int), (i : Int)) = lateP l ((t : Int), (i : Int)) ((tb : Int), (ib : Int)) by rw [J.out]; simp [misP, c3a])
        go_wp2_with (first | (go_at_call 23; refine stopAt ?_))
        unfold StopAt
        refine (lspan_any w3 rb ts _ (H.out.below BW3.out).at_ H.out.fit tb ib ttb HTB.out (List.getElem?_eq_some_iff.1 HOB.out).1).mono ?_
        rintro e w4 ⟨rfl, hb4⟩
        have J3 := Lib.hid (J2.out.trans (late_eq (b := ((tb : Int), (ib : Int))) H.out.proper IV.out).symm)
        generalize hs : spanP l ((tb : Int), (ib : Int)) = s at *
        clear hs
        obtain ⟨si, sr, ⟨e, f, v, k, c, r, x, y⟩⟩ := s
        simp only [SpD.val]
        obtain ⟨W4, hW4⟩ : ∃ W4, W4 = w4.alloc (.cells #[.int .i64 si, .int .i64 sr, .int .i64 e, .bool f, .int .u64 v, .string k, .int .i64 c, .int .i64 r, .int .i64 x, .bool y] 63) := ⟨_, rfl⟩
        have B4 : Hid (Below w3.heap.size w3 W4) := by rw [hW4]; exact hb4.alloc hb4.size _
        have KS4 : Hid (W4.heap[w4.heap.size]? = some (.cells #[.int .i64 si, .int .i64 sr, .int .i64 e, .bool f, .int .u64 v, .string k, .int .i64 c, .int .i64 r, .int .i64 x, .bool y] 63 (0, 0))) := by rw [hW4]; exact (heap_alloc w4 _).1
        have BW4 := Lib.hid (BW3.out.trans (B4.out.mono BW3.out.size))
        have KA4 := Lib.hid (kept_block KA3.out B4.out)
        clear hb4 o0 o1 y0 y1 x0 x1
        go_upto_region 16 with fail
        rw [← hW4]
        clear hW4
        have KC : Hid (∀ W, Below W4.heap.size W4 W → (W.cell? ⟨w.heap.size, 0, none⟩ = some (.int .i64 t) ∧ W.cell? ⟨w.heap.size, 1, none⟩ = some (.int .i64 i)) ∧ W.cell? ⟨w4.heap.size, 1, none⟩ = some (.int .i64 sr) ∧ W.cell? ⟨w4.heap.size, 2, none⟩ = some (.int .i64 e)) :=
          fun W hW => ⟨opBox_cells (opBox_kept KA4.out hW), blk_cell (kept_block KS4.out hW) 1, blk_cell (kept_block KS4.out hW) 2⟩
        have SA : Hid (∀ W, Below W4.heap.size W4 W → Calls Tryz.prog 23 #[.pointer (some ⟨rb, 0, none⟩), .agg #[.int .i64 t, .int .i64 i]] W fun e w' => e = .returned (spanP l ((t : Int), (i : Int))).val ∧ Below W4.heap.size W4 w') :=
          fun W hW => (lspan_any W rb ts _ (H.out.below (BW4.out.trans (hW.mono BW4.out.size))).at_ H.out.fit t i tt HT.out (List.getElem?_eq_some_iff.1 HI.out).1).mono fun e w' p => ⟨p.1, hW.trans (p.2.mono hW.size)⟩
        have BD : Hid (Below W4.heap.size W4 W4.drew) := (Below.refl _ _).drew
        generalize hsa : spanP l ((t : Int), (i : Int)) = sa at *
        obtain ⟨ai, ar, ⟨ae, af, av, ak, ac, aR, ax, ay⟩⟩ := sa
        have J4 := Lib.hid (show justP ts l ((t : Int), (i : Int)) = (decide (sr = -1) || decide (e ≠ 0) || decide (ai < sr)) from J3.out)
        simp only [SpD.val] at SA
        have FS := run_field_span ai ar ae af av ak ac aR ax ay
        clear hsa J3
        by_cases r1 : sr = -1
        · subst r1
          have R := Lib.hid (show justP ts l ((t : Int), (i : Int)) = true by rw [J4.out]; simp)
          refine wp_region_class (C := fun W => Below W4.heap.size W4 W) (by kernel_rfl) (by kernel_rfl) BD.out ?_
          repeat (first | go_big_quiet_step (fail) | (refine' wpQuiet_take (by rfl) (fun W hW => ?_) ?_; rotate_left; (obtain ⟨⟨x0, x1⟩, x2, x3⟩ := KC.out W hW); go_simp; (first | rfl | (with_reducible exact SA.out W hW)); (simp only [Act.put, List.setIfInBounds_toArray, List.set_cons_zero, List.set_cons_succ])) | ((refine wpQuiet_skip (by rfl) ?_); (simp only [Act.put, List.setIfInBounds_toArray, List.set_cons_zero, List.set_cons_succ])))
          refine wpQuiet_nil ?_
          intro w7 hb7
          have B7 := Lib.hid (BW4.out.trans (hb7.mono BW4.out.size))
          clear hb7
          go_wp2_with fail
          go_ret
          exact ⟨ret_bool R.out.symm, B7.out⟩
        have r1b : (sr == -1) = false := by simpa using r1
        by_cases r2 : e = 0
        · subst r2
          cases r3 : decide (ai < sr) with
          | true =>
            have R := Lib.hid (show justP ts l ((t : Int), (i : Int)) = true by rw [J4.out, r3]; simp)
            refine wp_region_class (C := fun W => Below W4.heap.size W4 W) (by kernel_rfl) (by kernel_rfl) BD.out ?_
            repeat (first | go_big_quiet_step (fail) | (refine' wpQuiet_take (by rfl) (fun W hW => ?_) ?_; rotate_left; (obtain ⟨⟨x0, x1⟩, x2, x3⟩ := KC.out W hW); go_simp; (first | rfl | (with_reducible exact SA.out W hW)); (simp only [Act.put, List.setIfInBounds_toArray, List.set_cons_zero, List.set_cons_succ])) | ((refine wpQuiet_skip (by rfl) ?_); (simp only [Act.put, List.setIfInBounds_toArray, List.set_cons_zero, List.set_cons_succ])))
            refine wpQuiet_nil ?_
            intro w7 hb7
            have B7 := Lib.hid (BW4.out.trans (hb7.mono BW4.out.size))
            clear hb7
            go_wp2_with fail
            go_ret
            exact ⟨ret_bool R.out.symm, B7.out⟩
          | false =>
            have R := Lib.hid (show justP ts l ((t : Int), (i : Int)) = false by rw [J4.out, r3]; simp [r1])
            refine wp_region_class (C := fun W => Below W4.heap.size W4 W) (by kernel_rfl) (by kernel_rfl) BD.out ?_
            repeat (first | go_big_quiet_step (fail) | (refine' wpQuiet_take (by rfl) (fun W hW => ?_) ?_; rotate_left; (obtain ⟨⟨x0, x1⟩, x2, x3⟩ := KC.out W hW); go_simp; (first | rfl | (with_reducible exact SA.out W hW)); (simp only [Act.put, List.setIfInBounds_toArray, List.set_cons_zero, List.set_cons_succ])) | ((refine wpQuiet_skip (by rfl) ?_); (simp only [Act.put, List.setIfInBounds_toArray, List.set_cons_zero, List.set_cons_succ])))
            refine wpQuiet_nil ?_
            intro w7 hb7
            have B7 := Lib.hid (BW4.out.trans (hb7.mono BW4.out.size))
            clear hb7
            go_wp2_with fail
            go_ret
            exact ⟨ret_bool R.out.symm, B7.out⟩
        · have r2b : (e == 0) = false := by simpa using r2
          have r2c : (e != 0) = true := by simpa using r2
          have R := Lib.hid (show justP ts l ((t : Int), (i : Int)) = true by rw [J4.out]; simp [r2])
          refine wp_region_class (C := fun W => Below W4.heap.size W4 W) (by kernel_rfl) (by kernel_rfl) BD.out ?_
          repeat (first | go_big_quiet_step (fail) | (refine' wpQuiet_take (by rfl) (fun W hW => ?_) ?_; rotate_left; (obtain ⟨⟨x0, x1⟩, x2, x3⟩ := KC.out W hW); go_simp; (first | rfl | (with_reducible exact SA.out W hW)); (simp only [Act.put, List.setIfInBounds_toArray, List.set_cons_zero, List.set_cons_succ])) | ((refine wpQuiet_skip (by rfl) ?_); (simp only [Act.put, List.setIfInBounds_toArray, List.set_cons_zero, List.set_cons_succ])))
          refine wpQuiet_nil ?_
          intro w7 hb7
          have B7 := Lib.hid (BW4.out.trans (hb7.mono BW4.out.size))
          clear hb7
          go_wp2_with fail
          go_ret
          exact ⟨ret_bool R.out.symm, B7.out⟩
      · have m1b : (bk == 8) = false := by simpa using m1
        have m2b : (bk == 9) = false := by simpa using m2
        have m1c : (bk != 8) = true := by simpa using m1
        have m2c : (bk != 9) = true := by simpa using m2
        have J2 := Lib.hid (show justP ts l ((t : Int), (i : Int)) = true by rw [J.out]; simp [misP, c3a, m1, m2])
        have R := Lib.hid (J2.out)
        go_wp2_with fail
        go_ret
        exact ⟨ret_bool R.out.symm, BW3.out⟩
end Go.Proofs.YtbmoehndnbbhcaaGreatDoor
namespace Go.Proofs.YtbmoehndnbbhcaaGreatDoor
set_option linter.unusedVariables false
set_option linter.unusedSimpArgs false
open Go Go.RowKit Go.MapKept
def JustTo (ts : List (List OpD)) (l : List EvD) (T : Nat) (I : Nat) : Prop := ∀ (t i : Nat) (tt : List OpD), ts[t]? = some tt → i < tt.length → (t < T ∨ (t = T ∧ i < I)) → refusedP l ((t : Int), (i : Int)) = true → justP ts l ((t : Int), (i : Int)) = true
def JbRel (w : World) (ts : List (List OpD)) (l : List EvD) (i : Value) (wr : World) : Prop := ∃ j : Nat, j ≤ ts.length ∧ i = .int .i64 j ∧ JustTo ts l j 0 ∧ Below w.heap.size w wr
def JbIn (w : World) (ts : List (List OpD)) (l : List EvD) (T n : Nat) (i : Value) (wr : World) : Prop := ∃ j : Nat, j ≤ n ∧ i = .int .i64 j ∧ JustTo ts l T j ∧ Below w.heap.size w wr
/-- the cells of a span -/
theorem span_at {w : World} {b off i : Nat} {s : SpD} (h : ∀ j v, s.cells[j]? = some v → w.cell? ⟨b, off + i * 10 + j, none⟩ = some v) :
    w.cell? ⟨b, off + i * 10, none⟩ = some (.int .i64 s.inv) ∧ w.cell? ⟨b, off + i * 10 + 1, none⟩ = some (.int .i64 s.ret) ∧ w.cell? ⟨b, off + i * 10 + 2, none⟩ = some (.int .i64 s.res.err) ∧ w.cell? ⟨b, off + i * 10 + 3, none⟩ = some (.bool s.res.found) ∧
    w.cell? ⟨b, off + i * 10 + 4, none⟩ = some (.int .u64 s.res.value) ∧ w.cell? ⟨b, off + i * 10 + 5, none⟩ = some (.string s.res.key) ∧ w.cell? ⟨b, off + i * 10 + 6, none⟩ = some (.int .i64 s.res.count) ∧ w.cell? ⟨b, off + i * 10 + 7, none⟩ = some (.int .i64 s.res.ref) ∧
    w.cell? ⟨b, off + i * 10 + 8, none⟩ = some (.int .i64 s.res.root) ∧ w.cell? ⟨b, off + i * 10 + 9, none⟩ = some (.bool s.res.ro) :=
  ⟨h 0 _ rfl, h 1 _ rfl, h 2 _ rfl, h 3 _ rfl, h 4 _ rfl, h 5 _ rfl, h 6 _ rfl, h 7 _ rfl, h 8 _ rfl, h 9 _ rfl⟩
theorem refused_inv {ops : List Nat} {l : List EvD} (hp : ProperP ops l) {a : OpP} (h : refusedP l a = true) : whenP l a false ≠ -1 := by
  have := (hp.when_back (refused_back h)).1
  omega
set_option maxRecDepth 100000 in
set_option maxHeartbeats 4000000 in
theorem ljustified_any (w : World) (rb : Nat) (ts : List (List OpD)) (l : List EvD) (h : RecOk w rb ts l) :
    Calls Tryz.prog 15 #[.pointer (some ⟨rb, 0, none⟩)] w fun e w' => e = .returned (.bool (excusedP ts l)) ∧ Below w.heap.size w w' := by
  have H := Lib.hid h
  have hl1 := h.fit.len
  have FT := Lib.hid h.fit.each
  have hrl := h.at_.lt
  obtain ⟨A, c, U, d, h1, h2, h3⟩ := h.at_
  obtain ⟨r0, r1⟩ := pair_cells h1
  have H3 := Lib.hid h3
  clear h h1 h2 h3 r0
  go_enter Tryz.func15, Tryz.ntmps15
  go_wp2_with fail
  clear r1
  go_loopw [12] (fun i wr => JbRel w ts l i wr) (fun i _ => ts.length - (intOf i).toNat)
  case atStart => exact ⟨0, by omega, rfl, fun t i tt _ _ h => by omega, Below.refl _ _⟩
  case round =>
    obtain ⟨T, hj, rfl, hall, hb⟩ := hrel
    have AL := Lib.hid hall
    have BR := Lib.hid hb
    clear hall hb
    by_cases hlt : T < ts.length
    · obtain ⟨tt, htt⟩ : ∃ tt, ts[T]? = some tt := ⟨_, List.getElem?_eq_getElem hlt⟩
      obtain ⟨b, off, rfl, hbz, hc⟩ := H3.out (by omega)
      obtain ⟨u, cu, k1, k2⟩ := hc T tt htt
      have z1 := (BR.out.cell (p := ⟨b, _, none⟩) hbz).trans k1
      have K2 := Lib.hid k2
      have hT0 : (0 : Int) ≤ T := by omega
      have hT1 : (T : Int) < ts.length := by omega
      have htl := FT.out tt (List.mem_of_getElem? htt)
      have HT := Lib.hid htt
      clear htt hc k1 k2
      go_wp2_with fail
      clear z1
      go_loopw [19] (fun i wr => JbIn w ts l T tt.length i wr) (fun i _ => tt.length - (intOf i).toNat)
      case atStart => exact ⟨0, by omega, rfl, AL.out, BR.out⟩
      case round =>
        obtain ⟨I, hI, rfl, hall2, hb2⟩ := hrel
        have AI := Lib.hid hall2
        have BI := Lib.hid hb2
        clear hall2 hb2
        by_cases hlt2 : I < tt.length
        · obtain ⟨b2, off2, rfl, hb2z, hc2⟩ := K2.out (by omega)
          have SP := Lib.hid (show ∀ j v, (spanP l ((T : Int), (I : Int))).cells[j]? = some v → _ from hc2 I hlt2)
          generalize hs : spanP l ((T : Int), (I : Int)) = s at *
          have HS := Lib.hid hs
          obtain ⟨q0, q1, q2, q3, q4, q5, q6, q7, q8, q9⟩ := span_at (w := wr) (b := b2) (off := off2) (i := I) (s := s) fun j v hj => (BI.out.cell (p := ⟨b2, _, none⟩) hb2z).trans (SP.out j v hj)
          have hI0 : (0 : Int) ≤ I := by omega
          have hI1 : (I : Int) < tt.length := by omega
          clear hs hc2
          obtain ⟨si, sr, ⟨e, f, v, k, c, r, x, y⟩⟩ := s
          simp only at q0 q1 q2 q3 q4 q5 q6 q7 q8 q9
          go_upto_region 7 with fail
          obtain ⟨W1, hW1⟩ : ∃ W1, W1 = wr.alloc (.cells #[.int .i64 si, .int .i64 sr, .int .i64 e, .bool f, .int .u64 v, .string k, .int .i64 c, .int .i64 r, .int .i64 x, .bool y] 63) := ⟨_, rfl⟩
          have B1 : Hid (Below wr.heap.size wr W1) := by rw [hW1]; exact balZ (Below.refl _ _) _
          have KS : Hid (W1.heap[wr.heap.size]? = some (.cells #[.int .i64 si, .int .i64 sr, .int .i64 e, .bool f, .int .u64 v, .string k, .int .i64 c, .int .i64 r, .int .i64 x, .bool y] 63 (0, 0))) := by rw [hW1]; exact (heap_alloc wr _).1
          have BW1 := Lib.hid (BI.out.trans (B1.out.mono BI.out.size))
          rw [← hW1]
          clear hW1 q0 q1 q2 q3 q4 q5 q6 q7 q8 q9
          obtain ⟨q0, q1, q2, q3, q4, q5, q6, q7, q8, q9⟩ := sp_cells KS.out
          have RF := Lib.hid (span_refused l ((T : Int), (I : Int)))
          rw [HS.out] at RF
          have EX : Hid (ExP (lens ts) ((T : Int), (I : Int))) := (exP_iff HT.out).2 ⟨hI0, hI1⟩
          have NX : Hid ((refusedP l ((T : Int), (I : Int)) = true → justP ts l ((T : Int), (I : Int)) = true) → JustTo ts l T (I + 1)) := fun hh t i tt' ht hi hlt' => by
            by_cases hti : t = T ∧ i = I
            · obtain ⟨rfl, rfl⟩ := hti; exact hh
            · exact AI.out t i tt' ht hi (by omega)
          go_wp2_with (first | (go_at_call 33; refine stopAt ?_))
          unfold StopAt
          refine (lsref_any W1 ⟨si, sr, ⟨e, f, v, k, c, r, x, y⟩⟩).mono ?_
          rintro e2 w2 ⟨rfl, hb2⟩
          have BW2 := Lib.hid (BW1.out.trans (hb2.mono BW1.out.size))
          clear hb2 q0 q1 q2 q3 q4 q5 q6 q7 q8 q9
          rw [RF.out]
          cases hr : refusedP l ((T : Int), (I : Int)) with
          | false =>
            have NY := Lib.hid (NX.out (by rw [hr]; simp))
            clear hr
            go_wp2_with fail
            go_roundw
            case rel => exact ⟨I + 1, by omega, by go_num, NY.out, BW2.out⟩
            case measure => simp [intOf]; omega
          | true =>
            have HR := Lib.hid hr
            clear hr
            go_wp2_with (first | (go_at_call 34; refine stopAt ?_))
            unfold StopAt
            refine (ljust_any _ rb ts l (H.out.below BW2.out) T I EX.out (refused_inv H.out.proper HR.out)).mono ?_
            rintro e3 w3 ⟨rfl, hb3⟩
            have BW3 := Lib.hid (BW2.out.trans (hb3.mono BW2.out.size))
            clear hb3
            cases hj2 : justP ts l ((T : Int), (I : Int)) with
            | true =>
              have NY := Lib.hid (NX.out fun _ => hj2)
              clear hj2
              go_wp2_with fail
              go_roundw
              case rel => exact ⟨I + 1, by omega, by go_num, NY.out, BW3.out⟩
              case measure => simp [intOf]; omega
            | false =>
              have R := Lib.hid (exc_bad H.out.proper HR.out hj2)
              clear hj2
              go_wp2_with fail
              go_ret
              exact ⟨ret_bool R.out.symm, BW3.out⟩
        · have AN : Hid (JustTo ts l (T + 1) 0) := fun t i tt' ht hi hlt' => by
            refine AI.out t i tt' ht hi ?_
            by_cases htT : t = T
            · subst htT
              rw [HT.out] at ht
              obtain rfl := Option.some.inj ht
              omega
            · omega
          go_wp2_with fail
          go_roundw
          case rel => exact ⟨T + 1, by omega, by go_num, AN.out, BI.out⟩
          case measure => simp [intOf]; omega
    · have R : Hid (excusedP ts l = true) := exc_good (H.out.proper) fun a hex hr => by
        obtain ⟨t, i, tt, o, rfl, ht, ho, _⟩ := exP_get hex
        have h1 := (List.getElem?_eq_some_iff.1 ht).1
        exact AL.out t i tt ht (List.getElem?_eq_some_iff.1 ho).1 (by omega) hr
      go_wp2_with fail
      go_ret
      exact ⟨ret_bool R.out.symm, BR.out⟩
end Go.Proofs.YtbmoehndnbbhcaaGreatDoor
namespace Go.Proofs.YtbmoehndnbbhcaaGreatDoor
set_option linter.unusedVariables false
set_option linter.unusedSimpArgs false
open Go Go.RowKit Go.MapKept
open Go.ChangeMaps (setBlock)
theorem turned_refl (r : Nat) (w : World) : Turned r w w := ⟨fun _ _ _ => rfl, fun _ _ _ => rfl, rfl, fun _ _ => rfl, rfl, rfl, rfl⟩
theorem turned_trans {r : Nat} {a b c : World} (h : Turned r a b) (k : Turned r b c) : Turned r a c :=
  ⟨fun x j hx => (k.cell x j hx).trans (h.cell x j hx), fun x j hx => (k.frozen x j hx).trans (h.frozen x j hx), k.size.trans h.size, fun x hx => (k.block x hx).trans (h.block x hx), k.os.trans h.os, k.tape.trans h.tape, k.output.trans h.output⟩
theorem turned_set (w : World) (b j : Nat) (v : Value) : Turned b w (w.setCell ⟨b, j, none⟩ v) := by
  have hb : ∀ c, c ≠ b → (w.setCell ⟨b, j, none⟩ v).heap[c]? = w.heap[c]? := fun c hc => by
    simp [World.setCell, Array.getElem?_modify, Ne.symm hc]
  exact ⟨fun c i hc => World.cell?_of_block (hb c hc), fun c i hc => World.frozen?_of_block (hb c hc), by simp [World.setCell], hb, rfl, rfl, rfl⟩
/-- a thread's spans, in a block of their own -/
def SpBlk (w : World) (b n : Nat) (f : Nat → SpD) : Prop := ∃ cs : Array Value, w.heap[b]? = some (.cells cs 63 (0, 0)) ∧ cs.size = n * 10 ∧ ∀ (i j : Nat) (v : Value), i < n → (f i).cells[j]? = some v → cs[i * 10 + j]? = some v
theorem SpBlk.congr {w : World} {b n : Nat} {f g : Nat → SpD} (h : SpBlk w b n f) (e : ∀ i, i < n → f i = g i) : SpBlk w b n g := by
  obtain ⟨cs, h1, h2, h3⟩ := h
  exact ⟨cs, h1, h2, fun i j v hi hj => h3 i j v hi (by rw [e i hi]; exact hj)⟩
theorem SpBlk.of_block {w w' : World} {b n : Nat} {f : Nat → SpD} (h : SpBlk w b n f) (e : w'.heap[b]? = w.heap[b]?) : SpBlk w' b n f := by
  obtain ⟨cs, h1, h2⟩ := h
  exact ⟨cs, e.trans h1, h2⟩
theorem SpBlk.free {w : World} {b n : Nat} {f : Nat → SpD} (h : SpBlk w b n f) : ∀ j, w.frozen? ⟨b, j, none⟩ = false := by
  obtain ⟨cs, h1, _⟩ := h
  exact cells_free h1
theorem SpBlk.cell {w : World} {b n : Nat} {f : Nat → SpD} (h : SpBlk w b n f) {i j : Nat} {v : Value} (hi : i < n) (hj : (f i).cells[j]? = some v) : w.cell? ⟨b, i * 10 + j, none⟩ = some v := by
  obtain ⟨cs, h1, h2, h3⟩ := h
  rw [blk_cell h1]
  exact h3 i j v hi hj
theorem SpD.cells_len (s : SpD) : s.cells.length = 10 := rfl
/-- one cell of a span is written -/
theorem SpBlk.set {w : World} {b n : Nat} {f g : Nat → SpD} (h : SpBlk w b n f) {i j : Nat} {v : Value} (hi : i < n) (hg : ∀ k, k < n → k ≠ i → g k = f k) (hv : (g i).cells = (f i).cells.set j v) (hj : j < 10) : SpBlk (w.setCell ⟨b, i * 10 + j, none⟩ v) b n g := by
  obtain ⟨cs, h1, h2, h3⟩ := h
  refine ⟨_, cells_set h1 v, by simp [h2], fun k m u hk hm => ?_⟩
  have hm10 : m < 10 := by
    have := (List.getElem?_eq_some_iff.1 hm).1
    rwa [SpD.cells_len] at this
  rw [Array.getElem?_setIfInBounds]
  by_cases hki : k = i
  · subst hki
    rw [hv, List.getElem?_set] at hm
    by_cases hjm : j = m
    · subst hjm
      rw [if_pos rfl] at hm
      rw [if_pos rfl, if_pos (by omega)]
      split at hm
      · exact hm
      · simp at hm
    · rw [if_neg hjm] at hm
      rw [if_neg (by omega)]
      exact h3 k m u hk hm
  · rw [if_neg (by omega)]
    rw [hg k hk hki] at hm
    exact h3 k m u hk hm
def lenT (ts : List (List OpD)) (i : Nat) : Nat := (ts[i]?.getD []).length
theorem lenT_at {ts : List (List OpD)} {i : Nat} {t : List OpD} (h : ts[i]? = some t) : lenT ts i = t.length := by unfold lenT; rw [h]; rfl
def usOf (ts : List (List OpD)) (bs : List Nat) : List Value := (List.range bs.length).map fun i => .slice (some ⟨bs.getD i 0, 0, none⟩) (lenT ts i) (lenT ts i)
theorem usOf_len (ts : List (List OpD)) (bs : List Nat) : (usOf ts bs).length = bs.length := by simp [usOf]
theorem usOf_snoc (ts : List (List OpD)) (bs : List Nat) (b : Nat) : usOf ts (bs ++ [b]) = usOf ts bs ++ [.slice (some ⟨b, 0, none⟩) (lenT ts bs.length) (lenT ts bs.length)] := by
  unfold usOf
  rw [List.length_append, List.length_singleton, List.range_succ, List.map_append]
  congr 1
  · refine List.map_congr_left fun i hi => ?_
    have hi' : i < bs.length := by simpa using hi
    simp [List.getD, List.getElem?_append_left hi']
  · simp [List.getD]
theorem usOf_at {ts : List (List OpD)} {bs : List Nat} {i b : Nat} (h : bs[i]? = some b) : (usOf ts bs)[i]? = some (.slice (some ⟨b, 0, none⟩) (lenT ts i) (lenT ts i)) := by
  have hi := (List.getElem?_eq_some_iff.1 h).1
  have he := (List.getElem?_eq_some_iff.1 h).2
  simp [usOf, hi, List.getD, he]
structure RecB (w : World) (ts : List (List OpD)) (A : Option Addr) (c : Nat) (f : Nat → Nat → SpD) (v : Value) (bs : List Nat) (wr : World) : Prop where
  box : wr.heap[w.heap.size]? = some (.cells #[.slice A ts.length c, v] 82 (0, 0))
  row : wr.ownsRow (w.heap.size + 1) 83 1 v bs.length (usOf ts bs)
  blk : ∀ (i b : Nat), bs[i]? = some b → w.heap.size < b ∧ SpBlk wr b (lenT ts i) (f i)
  nodup : bs.Nodup
  below : Below w.heap.size w wr
theorem RecB.row_ne {w : World} {ts : List (List OpD)} {A : Option Addr} {c : Nat} {f : Nat → Nat → SpD} {v : Value} {bs : List Nat} {wr : World} (h : RecB w ts A c f v bs wr) {b n : Nat} {g : Nat → SpD} (hb : SpBlk wr b n g) : v.ownBlock ≠ some b := fun e => by
  obtain ⟨_, cur, hc⟩ := row_kind h.row e
  obtain ⟨cs, h1, _⟩ := hb
  rw [h1] at hc
  simp only [Option.some.injEq, Obj.cells.injEq] at hc
  exact absurd hc.2.1 (by decide)
/-- a block of spans turns -/
theorem RecB.turn {w : World} {ts : List (List OpD)} {A : Option Addr} {c : Nat} {f g : Nat → Nat → SpD} {v : Value} {bs : List Nat} {wr wr' : World} (h : RecB w ts A c f v bs wr) {t b : Nat} (ht : Turned b wr wr') (hb : bs[t]? = some b) (hs : SpBlk wr' b (lenT ts t) (g t)) (hg : ∀ i, i ≠ t → g i = f i) : RecB w ts A c g v bs wr' := by
  obtain ⟨hbt, hsp⟩ := h.blk t b hb
  refine ⟨(ht.block _ (by omega)).trans h.box, row_keep h.row fun k hk => ht.block k fun e => h.row_ne hsp (e ▸ hk), fun i b' hi => ?_, h.nodup, turned_below' h.below ht (by omega)⟩
  by_cases hit : i = t
  · subst hit
    rw [hb] at hi
    obtain rfl := Option.some.inj hi
    exact ⟨hbt, hs⟩
  · have hne : b' ≠ b := fun e => by
      subst e
      have h1 := (List.getElem?_eq_some_iff.1 hi)
      have h2 := (List.getElem?_eq_some_iff.1 hb)
      have nd := List.pairwise_iff_getElem.1 h.nodup
      rcases Nat.lt_or_gt_of_ne hit with hl | hl
      · exact nd i t h1.1 h2.1 hl (h1.2.trans h2.2.symm)
      · exact nd t i h2.1 h1.1 hl (h2.2.trans h1.2.symm)
    rw [hg i hit]
    exact ⟨(h.blk i b' hi).1, (h.blk i b' hi).2.of_block (ht.block b' hne)⟩
  where
  turned_below' {B : Nat} {a b c : World} {m : Nat} (h : Below B a b) (ht : Turned m b c) (hm : B ≤ m) : Below B a c :=
    ⟨ht.os.trans h.os, ht.tape.trans h.tape, ht.output.trans h.output, by rw [ht.size]; exact h.size, fun k hk => (ht.block k (by omega)).trans (h.block k hk)⟩
theorem RecB.keep {w : World} {ts : List (List OpD)} {A : Option Addr} {c : Nat} {f : Nat → Nat → SpD} {v : Value} {bs : List Nat} {wr wr' : World} (h : RecB w ts A c f v bs wr) (hb : Below wr.heap.size wr wr') : RecB w ts A c f v bs wr' :=
  ⟨(hb.block _ (Array.getElem?_eq_some_iff.1 h.box).1).trans h.box, row_keep h.row fun k hk => hb.block k (row_lt h.row hk), fun i b hi => ⟨(h.blk i b hi).1, (h.blk i b hi).2.of_block (hb.block b (by
    obtain ⟨cs, h1, _⟩ := (h.blk i b hi).2
    exact (Array.getElem?_eq_some_iff.1 h1).1))⟩, h.nodup, h.below.trans (hb.mono h.below.size)⟩
theorem RecB.done {w : World} {ts : List (List OpD)} {A : Option Addr} {c : Nat} {f : Nat → Nat → SpD} {v : Value} {bs : List Nat} {wr : World} (h : RecB w ts A c f v bs wr) (hA : ThrAt w A ts) (hn : bs.length = ts.length) : RecAt wr w.heap.size ts f := by
  obtain ⟨g, cap, hv⟩ := row_form h.row
  subst hv
  refine ⟨A, c, g, cap, by rw [← hn]; rw [hn]; rw [← hn]; have := h.box; rw [hn] at this; rw [hn]; exact this, hA.below h.below, fun h0 => ?_⟩
  obtain ⟨gb, cap', hv⟩ := row_some h.row (by omega)
  simp only [Value.slice.injEq, true_and] at hv
  obtain ⟨rfl, rfl⟩ := hv
  refine ⟨gb, 0, rfl, row_lt h.row rfl, fun t tt ht => ?_⟩
  have htl := (List.getElem?_eq_some_iff.1 ht).1
  obtain ⟨b, hb⟩ : ∃ b, bs[t]? = some b := ⟨_, List.getElem?_eq_getElem (by omega)⟩
  have c1 := h.row.cells (g := gb) rfl t _ (usOf_at hb)
  rw [raddr, lenT_at ht] at c1
  refine ⟨some ⟨b, 0, none⟩, tt.length, by rw [Nat.zero_add]; exact c1, fun hp => ⟨b, 0, rfl, ?_, fun i hi j u hu => ?_⟩⟩
  · obtain ⟨cs, h1, _⟩ := (h.blk t b hb).2
    exact (Array.getElem?_eq_some_iff.1 h1).1
  · have := (h.blk t b hb).2.cell (i := i) (j := j) (v := u) (by rw [lenT_at ht]; exact hi) hu
    rwa [Nat.zero_add]
theorem SpBlk.lt {w : World} {b n : Nat} {f : Nat → SpD} (h : SpBlk w b n f) : b < w.heap.size := by
  obtain ⟨cs, h1, _⟩ := h
  exact (Array.getElem?_eq_some_iff.1 h1).1
theorem RecB.turned_below {B : Nat} {a b c : World} {m : Nat} (h : Below B a b) (ht : Turned m b c) (hm : B ≤ m) : Below B a c :=
  ⟨ht.os.trans h.os, ht.tape.trans h.tape, ht.output.trans h.output, by rw [ht.size]; exact h.size, fun k hk => (ht.block k (by omega)).trans (h.block k hk)⟩
/-- another block turns -/
theorem RecB.away {w : World} {ts : List (List OpD)} {A : Option Addr} {c : Nat} {f : Nat → Nat → SpD} {v : Value} {bs : List Nat} {wr wr' : World} (h : RecB w ts A c f v bs wr) {b : Nat} (ht : Turned b wr wr') (hb : w.heap.size < b) (hbs : ∀ (i b' : Nat), bs[i]? = some b' → b' < b) (hv : v.ownBlock ≠ some b) : RecB w ts A c f v bs wr' :=
  ⟨(ht.block _ (by omega)).trans h.box, row_keep h.row fun k hk => ht.block k fun e => hv (e ▸ hk), fun i b' hi => ⟨(h.blk i b' hi).1, (h.blk i b' hi).2.of_block (ht.block b' (by have := hbs i b' hi; omega))⟩, h.nodup, RecB.turned_below h.below ht (by omega)⟩
/-- one more thread -/
theorem RecB.push {w : World} {ts : List (List OpD)} {A : Option Addr} {c : Nat} {f : Nat → Nat → SpD} {v : Value} {bs : List Nat} {wr w3 : World} (h : RecB w ts A c f v bs wr) {b : Nat} (hsp : SpBlk wr b (lenT ts bs.length) (f bs.length)) (hbs : ∀ (i b' : Nat), bs[i]? = some b' → b' < b) (hb0 : w.heap.size < b) {o : Obj} {a3 : Option Addr} {c3 : Nat}
    (ho3 : w3.ownsRow (w.heap.size + 1) 83 1 (.slice a3 (bs.length + 1) c3) (bs.length + 1) (usOf ts bs ++ [.slice (some ⟨b, 0, none⟩) (lenT ts bs.length) (lenT ts bs.length)])) (hg : (wr.alloc o).grownBy w3 v.ownBlock) :
    RecB w ts A c f (.slice a3 (bs.length + 1) c3) (bs ++ [b]) (w3.setCell ⟨w.heap.size, 1, none⟩ (.slice a3 (bs.length + 1) c3)) := by
  have hrow : ∀ k, v.ownBlock = some k → w.heap.size + 1 ≤ k := fun k hk => (row_kind h.row hk).1
  have hrow3 : ∀ k, (Value.slice a3 (bs.length + 1) c3).ownBlock = some k → w.heap.size + 1 ≤ k := fun k hk => (row_kind ho3 hk).1
  have hbl := h.below.size
  have hbx := (Array.getElem?_eq_some_iff.1 h.box).1
  have box3 : w3.heap[w.heap.size]? = _ := (grown_block hg hbx (fun e => by have := hrow _ e; omega)).trans h.box
  have tt := turned_set w3 w.heap.size 1 (.slice a3 (bs.length + 1) c3)
  have b3 : Below w.heap.size w w3 := h.below.trans (grown_below hg hbl fun k hk => by have := hrow k hk; omega)
  have keep : ∀ (b' n : Nat) (g : Nat → SpD), w.heap.size < b' → SpBlk wr b' n g → SpBlk (w3.setCell ⟨w.heap.size, 1, none⟩ (.slice a3 (bs.length + 1) c3)) b' n g := fun b' n g hb' hs =>
    hs.of_block ((tt.block b' (by omega)).trans (grown_block hg hs.lt (h.row_ne hs)))
  refine ⟨?_, ?_, fun i b' hi => ?_, ?_, RecB.turned_below b3 tt (Nat.le_refl _)⟩
  · rw [cells_set box3]
    rfl
  · rw [List.length_append, List.length_singleton, usOf_snoc]
    exact row_keep ho3 fun k hk => tt.block k (by have := hrow3 k hk; omega)
  · by_cases hil : i < bs.length
    · rw [List.getElem?_append_left hil] at hi
      exact ⟨(h.blk i b' hi).1, keep b' _ _ (h.blk i b' hi).1 (h.blk i b' hi).2⟩
    · have hie : i = bs.length := by
        have := (List.getElem?_eq_some_iff.1 hi).1
        simp at this
        omega
      subst hie
      simp at hi
      subst hi
      exact ⟨hb0, keep b _ _ hb0 hsp⟩
  · rw [List.nodup_append]
    refine ⟨h.nodup, by simp, fun x hx y hy => ?_⟩
    obtain ⟨i, hi, e⟩ := List.getElem_of_mem hx
    have := hbs i x (by rw [List.getElem?_eq_getElem hi, e])
    simp at hy
    omega
end Go.Proofs.YtbmoehndnbbhcaaGreatDoor
