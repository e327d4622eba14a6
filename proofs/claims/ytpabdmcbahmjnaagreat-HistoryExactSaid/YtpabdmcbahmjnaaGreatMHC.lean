/- Part of a proof: HEvs Last HChg. -/
import Derived.Test.YtpabdmcbahmjnaaGreatMHE
import Derived.Test.YtpabdmcbahmjnaaGreatMSE
import Derived.Deep.RegionHeld3
import Derived.Test.YtpabdmcbahmjnaaGreatMA3
import Derived.Deep.RegionLaw
import Derived.Deep.DeepAppendRoom
namespace Go.Proofs.YtpabdmcbahmjnaaGreat
open Go Go.RowKit Go.MapKept
set_option linter.unusedSimpArgs false
set_option linter.unusedVariables false
def GeRel (w : World) (v i : Value) (wr : World) : Prop :=
 ∃ (j : Nat) (l : List EvD), j ≤ 24 ∧ l.length ≤ j ∧ i = .int .i64 j ∧ EvsFit l ∧ wr.ownsRow (w.heap.size + 1) 72 11 v l.length (l.flatMap EvD.cells) ∧ Sc.TapeIs wr w.heap.size w.heap.size ∧ Below w.heap.size w wr
theorem EvsFit.nil : EvsFit [] := ⟨by decide, (fun e he => by cases he), (fun e he => by cases he), (fun e he => by cases he)⟩
theorem EvsFit.snoc {l : List EvD} (h : EvsFit l) (hl : l.length ≤ 1000) {e : EvD} (h1 : I64 e.thread) (h2 : I64 e.index) (h3 : e.res.Fit) : EvsFit (l ++ [e]) := by
 refine ⟨by rw [List.length_append]; simp; omega, fun x hx => ?_, fun x hx => ?_, fun x hx => ?_⟩
 all_goals (rcases List.mem_append.1 hx with hx | hx)
 ·exact h.thread x hx
 ·rw [List.mem_singleton] at hx; subst hx; exact h1
 ·exact h.index x hx
 ·rw [List.mem_singleton] at hx; subst hx; exact h2
 ·exact h.res x hx
 ·rw [List.mem_singleton] at hx; subst hx; exact h3
def resN (z : Int) : ResF := ⟨0, false, z, ⟨#[]⟩, 0, 0, 0, false⟩
theorem i64z : I64 0 := ⟨by decide, by decide⟩
theorem resN_fit {z : Int} (h0 : 0 ≤ z) (h1 : z < 3) : (resN z).Fit := ⟨i64z, ⟨h0, by show z ≤ 18446744073709551615; omega⟩, (by show ByteArray.size ⟨#[]⟩ ≤ maxLen; unfold maxLen; decide), i64z, i64z, i64z⟩
theorem only_row {w w' : World} {bt B size n : Nat} {e : TypeId} {v : Value} {xs : List Value} (h : w.ownsRow B e size v n xs) (ho : Sc.Only (· = bt) w w') (hb : bt < B) : w'.ownsRow B e size v n xs :=
 row_keep h fun g hg => ho.block g (row_lt h hg) (by have := (row_kind h hg).1; show ¬ g = bt; omega)
theorem only_below {w w' : World} {bt B : Nat} {w0 : World} (h : Below B w0 w) (ho : Sc.Only (· = bt) w w') (hB : B ≤ w.heap.size) (hb : B ≤ bt) : Below B w0 w' :=
 h.trans (ho.below hB fun i hi => by have : i = bt := hi; omega)
set_option maxRecDepth 100000 in
set_option maxHeartbeats 8000000 in
theorem events_any (w : World) (A : Option Addr) (n c : Nat) (hi : Sc.IntsAt w A n) :
  Calls Tryz.prog 16 #[.slice A n c] w fun e w' => ∃ l, EvPost w l e w' ∧ EvsFit l := by
 have T0 := Lib.hid (Sc.TapeIs.made (c := c) (Nat.le_refl w.heap.size) hi.1 hi.2)
 have B0 := Lib.hid (balZ (Below.refl w.heap.size w) (.cells #[.slice A n c, .int .i64 0] 87))
 clear hi
 go_enter Tryz.func16, Tryz.ntmps16
 go_wp2_with (first | (go_at_call 23; refine stopAt ?_))
 unfold StopAt
 refine (Sc.tnew_any w A n c).mono ?_
 rintro e w1 ⟨rfl, rfl⟩
 go_wp2_with fail
 go_loopw [4, 5] (fun v i wr => GeRel w v i wr) (fun _ i _ => 24 - (intOf i).toNat)
 case atStart => exact ⟨0, [], by omega, Nat.le_refl _, rfl, EvsFit.nil, World.ownsRow_nil _ _ _ _, T0.out, B0.out⟩
 case round =>
  obtain ⟨j, l, hj, hlj, rfl, hfit, hown, ht, hbw⟩ := hrel
  have FT := Lib.hid hfit
  have HO := Lib.hid hown
  have HT := Lib.hid ht
  have HB := Lib.hid hbw
  have hsz : w.heap.size < wr.heap.size := ht.lt
  clear hfit hown ht hbw T0 B0
  obtain ⟨A2, c2, hv⟩ := row_form HO.out
  have HV := Lib.hid hv
  clear hv
  by_cases hlt : j < 24
  ·have hj1 : (j : Int) < 24 := by omega
   have hd : decide ((j : Int) < 24) = true := by simpa using hj1
   go_wp2_with (first | (go_at_call 27; refine stopAt ?_))
   unfold StopAt
   refine (Sc.tleft_any wr w.heap.size w.heap.size HT.out).mono ?_
   rintro e w1 ⟨⟨b, rfl⟩, hfd⟩
   have hz1 : wr.heap.size = w1.heap.size := by rw [hfd.heap]
   have T1 : Hid (Sc.TapeIs w1 w.heap.size w.heap.size) := HT.out.keep (by rw [hfd.heap]) (fun k _ => by rw [hfd.heap])
   have O1 : Hid (w1.ownsRow (w.heap.size + 1) 72 11 u4 l.length (l.flatMap EvD.cells)) := row_keep HO.out fun g _ => by rw [hfd.heap]
   have B1 := Lib.hid (HB.out.trans (Sc.FewDraws.below hfd w.heap.size))
   clear hfd
   cases b with
   | false =>
    go_wp2_with fail
    go_ret
    refine ⟨l, ?_, FT.out⟩
    have hv := HV.out
    subst hv
    exact ⟨A2, c2, rfl, evsAt_of_row O1.out rfl, B1.out⟩
   | true =>
    go_wp2_with (first | (go_at_call 25; refine stopAt ?_))
    unfold StopAt
    refine (Sc.tnext_any w1 w.heap.size w.heap.size 4 T1.out (by omega) (by omega)).mono ?_
    rintro e w2 ⟨⟨r1, p10, p11, rfl⟩, ht2, ho2⟩
    have T2 := Lib.hid ht2
    have O2 := Lib.hid (only_row O1.out ho2 (by omega))
    have B2 := Lib.hid (only_below B1.out ho2 (by omega) (Nat.le_refl _))
    have hz2 : w.heap.size < w2.heap.size := ht2.lt
    clear ht2 ho2
    go_wp2_with (first | (go_at_call 25; refine stopAt ?_))
    unfold StopAt
    refine (Sc.tnext_any w2 w.heap.size w.heap.size 4 T2.out (by omega) (by omega)).mono ?_
    rintro e w3 ⟨⟨r2, p20, p21, rfl⟩, ht3, ho3⟩
    have T3 := Lib.hid ht3
    have O3 := Lib.hid (only_row O2.out ho3 (by omega))
    have B3 := Lib.hid (only_below B2.out ho3 (by omega) (Nat.le_refl _))
    have hz3 : w.heap.size < w3.heap.size := ht3.lt
    clear ht3 ho3
    go_wp2_with (first | (go_at_call 25; refine stopAt ?_))
    unfold StopAt
    refine (Sc.tnext_any w3 w.heap.size w.heap.size 2 T3.out (by omega) (by omega)).mono ?_
    rintro e w4 ⟨⟨r3, p30, p31, rfl⟩, ht4, ho4⟩
    have T4 := Lib.hid ht4
    have O4 := Lib.hid (only_row O3.out ho4 (by omega))
    have B4 := Lib.hid (only_below B3.out ho4 (by omega) (Nat.le_refl _))
    have hz4 : w.heap.size < w4.heap.size := ht4.lt
    clear ht4 ho4
    obtain ⟨rt, hrt⟩ : ∃ rt : Bool, (r3 == 1) = rt := ⟨_, rfl⟩
    have hrt2 : decide (r3 = 1) = rt := by rw [← hrt]; rfl
    go_upto_region 7 with fail
    obtain ⟨W5, hW5⟩ : ∃ W5, W5 = w4.alloc (.cells #[.int .i64 (r1 - 1), .int .i64 r2, .bool rt, .int .i64 0, .bool false, .int .u64 0, .string ⟨#[]⟩, .int .i64 0, .int .i64 0, .int .i64 0, .bool false] 72) := ⟨_, rfl⟩
    have b5 : Below w4.heap.size w4 W5 := by rw [hW5]; exact balZ (Below.refl _ _) _
    have K5 : Hid (W5.heap[w4.heap.size]? = some (.cells #[.int .i64 (r1 - 1), .int .i64 r2, .bool rt, .int .i64 0, .bool false, .int .u64 0, .string ⟨#[]⟩, .int .i64 0, .int .i64 0, .int .i64 0, .bool false] 72 (0, 0))) := by rw [hW5]; exact (heap_alloc w4 _).1
    rw [← hW5]
    have T5 : Hid (Sc.TapeIs W5 w.heap.size w.heap.size) := T4.out.keep (b5.block _ hz4) (fun k hk => b5.block _ (by omega))
    have O5 := Lib.hid (row_keep O4.out (fun g hg => b5.block g (row_lt O4.out hg)))
    have B5 := Lib.hid (B4.out.trans (b5.mono B4.out.size))
    have hz5 : w4.heap.size < W5.heap.size := (Array.getElem?_eq_some_iff.1 K5.out).1
    have HG := Lib.hid (fun g (hg : u4.ownBlock = some g) => row_lt O4.out hg)
    clear hW5 b5
    generalize w4.heap.size = E at *
    go_wp2_with (first | (go_at_call 25; refine stopAt ?_))
    unfold StopAt
    refine (Sc.tnext_any W5 w.heap.size w.heap.size 2 T5.out (by omega) (by omega)).mono ?_
    rintro e w6 ⟨⟨r4, p40, p41, rfl⟩, ht6, ho6⟩
    have T6 := Lib.hid ht6
    have O6 := Lib.hid (only_row O5.out ho6 (by omega))
    have B6 := Lib.hid (only_below B5.out ho6 (by omega) (Nat.le_refl _))
    have K6 := Lib.hid ((ho6.block E hz5 (by omega)).trans K5.out)
    have hz6 : w.heap.size < w6.heap.size := ht6.lt
    have hE6 : E < w6.heap.size := (Array.getElem?_eq_some_iff.1 K6.out).1
    clear ht6 ho6 K5
    by_cases h4 : r4 = 0
    ·subst h4
     go_wp2_with (first | (go_at_call 25; refine stopAt ?_))
     unfold StopAt
     refine (Sc.tnext_any w6 w.heap.size w.heap.size 3 T6.out (by omega) (by omega)).mono ?_
     rintro e w8 ⟨⟨r5, p50, p51, rfl⟩, ht8, ho8⟩
     have T8 := Lib.hid ht8
     have O8 := Lib.hid (only_row O6.out ho8 (by omega))
     have B8 := Lib.hid (only_below B6.out ho8 (by omega) (Nat.le_refl _))
     have K8 := Lib.hid ((ho8.block E hE6 (by omega)).trans K6.out)
     have hE8 : E < w8.heap.size := (Array.getElem?_eq_some_iff.1 K8.out).1
     clear ht8 ho8
     obtain ⟨y0, y1, y2, y3, y4, y5, y6, y7, y8, y9, y10⟩ := ev_box (rs := resN 0) K8.out
     simp only [resN] at y3 y4 y5 y6 y7 y8 y9 y10
     have fz : w8.frozen? ⟨E, 5, none⟩ = false := by simp [World.frozen?, K8.out]
     have hu : IntKind.u64.wrap r5 = r5 := IntWalk.u64_in _ (by omega)
     go_upto_region 9 with fail
     obtain ⟨W9, hW9⟩ : ∃ W9, W9 = w8.setCell ⟨E, 5, none⟩ (.int .u64 r5) := ⟨_, rfl⟩
     have K9 : Hid (W9.heap[E]? = some (.cells #[.int .i64 (r1 - 1), .int .i64 r2, .bool rt, .int .i64 0, .bool false, .int .u64 r5, .string ⟨#[]⟩, .int .i64 0, .int .i64 0, .int .i64 0, .bool false] 72 (0, 0))) := by rw [hW9]; exact cells_set K8.out _
     have oth : ∀ k, k ≠ E → W9.heap[k]? = w8.heap[k]? := fun k hk => by rw [hW9]; exact Below.heap_setCell _ _ _ k hk
     have T9 : Hid (Sc.TapeIs W9 w.heap.size w.heap.size) := T8.out.keep (oth _ (by omega)) (fun k hk => oth k (by omega))
     have O9 := Lib.hid (row_keep O8.out (fun g hg => oth g (by have := HG.out g hg; omega)))
     have B9 : Hid (Below w.heap.size w W9) := by rw [hW9]; exact B8.out.setCell (p := ⟨E, 5, none⟩) (by show w.heap.size ≤ E; omega) _
     have hz9 : w.heap.size < W9.heap.size := T9.out.lt
     rw [← hW9]
     clear hW9 oth y0 y1 y2 y3 y4 y5 y6 y7 y8 y9 y10 fz hu
     obtain ⟨y0, y1, y2, y3, y4, y5, y6, y7, y8, y9, y10⟩ := ev_box (rs := resN r5) K9.out
     simp only [resN] at y3 y4 y5 y6 y7 y8 y9 y10
     go_wp2_with (at_builtin; refine stopAt ?_)
     unfold StopAt
     refine wpList_app 35 72 Tryz.underlying35 _ 11 96 evInfoH rfl (by decide) rfl _ _ rfl (w.heap.size + 1) _ u4 _ _ rfl (O9.out.alloc _) ⟨W9.heap.size, 0, none⟩ 1 1 (EvD.cells ⟨r1 - 1, r2, rt, resN r5⟩) rfl rfl ?_ (evCells_one _) ?_ ?_ ?_ ?_
     ·exact evCells_box (e := ⟨r1 - 1, r2, rt, resN r5⟩) (heap_alloc W9 _).1
     ·simp; omega
     ·unfold maxLen; omega
     ·omega
     intro a3 c3 w7 ho7 hg7
     have RR : Hid (GeRel w (.slice a3 (l.length + 1) c3) (.int .i64 ((j : Int) + 1)) w7) := by
      refine ⟨j + 1, l ++ [⟨r1 - 1, r2, rt, resN r5⟩], by omega, by rw [List.length_append]; simp; omega, by go_num, FT.out.snoc (by omega) ⟨by simp only; omega, by simp only; omega⟩ ⟨by simp only; omega, by simp only; omega⟩ (resN_fit (by omega) (by omega)), ?_, ?_, ?_⟩
      ·rw [List.length_append, List.flatMap_append]; exact ho7
      ·have hb7 : Below (w.heap.size + 1) W9 w7 := grown_below hg7 (by omega) (fun k hk => (row_kind O9.out hk).1)
       exact T9.out.keep (hb7.block _ (by omega)) (fun k hk => hb7.block _ (by omega))
      ·exact B9.out.trans (grown_below hg7 (by omega) (fun k hk => by have := (row_kind O9.out hk).1; omega))
     clear ho7 hg7
     go_wp2_with fail
     go_roundw
     case rel => exact RR.out
     case measure => simp [intOf]; omega
    ·have h4b : (r4 == 0) = false := by simpa using h4
     go_upto_region 9 with fail
     obtain ⟨y0, y1, y2, y3, y4, y5, y6, y7, y8, y9, y10⟩ := ev_box (rs := resN 0) K6.out
     simp only [resN] at y3 y4 y5 y6 y7 y8 y9 y10
     go_wp2_with (at_builtin; refine stopAt ?_)
     unfold StopAt
     refine wpList_app 35 72 Tryz.underlying35 _ 11 96 evInfoH rfl (by decide) rfl _ _ rfl (w.heap.size + 1) _ u4 _ _ rfl (O6.out.alloc _) ⟨w6.heap.size, 0, none⟩ 1 1 (EvD.cells ⟨r1 - 1, r2, rt, resN 0⟩) rfl rfl ?_ (evCells_one _) ?_ ?_ ?_ ?_
     ·exact evCells_box (e := ⟨r1 - 1, r2, rt, resN 0⟩) (heap_alloc w6 _).1
     ·simp; omega
     ·unfold maxLen; omega
     ·omega
     intro a3 c3 w7 ho7 hg7
     have RR : Hid (GeRel w (.slice a3 (l.length + 1) c3) (.int .i64 ((j : Int) + 1)) w7) := by
      refine ⟨j + 1, l ++ [⟨r1 - 1, r2, rt, resN 0⟩], by omega, by rw [List.length_append]; simp; omega, by go_num, FT.out.snoc (by omega) ⟨by simp only; omega, by simp only; omega⟩ ⟨by simp only; omega, by simp only; omega⟩ (resN_fit (by omega) (by omega)), ?_, ?_, ?_⟩
      ·rw [List.length_append, List.flatMap_append]; exact ho7
      ·have hb7 : Below (w.heap.size + 1) w6 w7 := grown_below hg7 (by omega) (fun k hk => (row_kind O6.out hk).1)
       exact T6.out.keep (hb7.block _ (by omega)) (fun k hk => hb7.block _ (by omega))
      ·exact B6.out.trans (grown_below hg7 (by omega) (fun k hk => by have := (row_kind O6.out hk).1; omega))
     clear ho7 hg7
     go_wp2_with fail
     go_roundw
     case rel => exact RR.out
     case measure => simp [intOf]; omega
  ·have hj2 : ¬ (j : Int) < 24 := by omega
   have hd : decide ((j : Int) < 24) = false := by simpa using hj2
   go_wp2_with fail
   go_ret
   refine ⟨l, ?_, FT.out⟩
   have hv := HV.out
   subst hv
   exact ⟨A2, c2, rfl, evsAt_of_row HO.out rfl, HB.out⟩
end Go.Proofs.YtpabdmcbahmjnaaGreat
namespace Go.Proofs.YtpabdmcbahmjnaaGreat
open Go
set_option linter.unusedSimpArgs false
set_option linter.unusedVariables false
section
variable {P : Program} {ops : Array Oper} {o : Oper} {Q : Exit → Act → World → Prop} {md : Region.Mode} {S : World → Prop}
def AtLast (P : Program) (o : Oper) (Q : Exit → Act → World → Prop) : Exit → Act → World → Prop
 | .normal, a, w => o.wp P a w (Q .normal) Q
 | e, a, w => Q e a w
theorem letsOut_last (h : LetsOut (AtLast P o Q)) : LetsOut Q := by
 obtain ⟨a, w, h⟩ := h
 exact ⟨a, w, h⟩
theorem wp_last_post {x : Oper} {a : Act} {w : World} {K : Act → World → Prop} (h : x.wp P a w K (AtLast P o Q)) : x.wp P a w K Q := by
 unfold Oper.wp at *
 generalize (execOp a.eval x).run P w = r at *
 cases r with
 | ok n w' =>
  cases n <;> simp only [Oper.upon] at h ⊢ <;>
   first
    | exact h
    | exact Calls.mono h (fun e w'' he => by cases e <;> first | exact he | exact letsOut_last he)
 | halt x w' => cases x <;> simp only [Oper.upon] at h ⊢ <;> exact h
def lastB (md : Region.Mode) (ops : Array Oper) (o : Oper) : Bool :=
 (List.range ops.size).all (fun i => ((ops[i]?).map fun x => x.guard.isNone && x.after.all (fun e => decide (e.on < i))).getD false) &&
 o.guard.isNone && o.after.all (fun e => decide (e.on < ops.size)) && (List.range ops.size).all (fun i => o.after.any fun e => Region.binds md e && e.on == i)
structure LastOk (md : Region.Mode) (ops : Array Oper) (o : Oper) : Prop where
 one : ∀ (i : Nat) (x : Oper), ops[i]? = some x → x.guard = none ∧ ∀ e ∈ x.after, e.on < i
 guard : o.guard = none
 below : ∀ e ∈ o.after, e.on < ops.size
 waits : ∀ i, i < ops.size → ∃ e ∈ o.after, Region.binds md e = true ∧ e.on = i
theorem lastB_ok (h : lastB md ops o = true) : LastOk md ops o := by
 unfold lastB at h
 simp only [Bool.and_eq_true, List.all_eq_true, List.mem_range, Array.all_eq_true', Array.any_eq_true', decide_eq_true_eq, Option.isNone_iff_eq_none, beq_iff_eq] at h
 obtain ⟨⟨⟨h1, h2⟩, h3⟩, h4⟩ := h
 refine ⟨fun i x hx => ?_, h2, h3, fun i hi => ?_⟩
 ·have hi := (Array.getElem?_eq_some_iff.1 hx).1
  have := h1 i hi
  rw [hx] at this
  simp only [Option.map_some, Option.getD_some, Bool.and_eq_true, Option.isNone_iff_eq_none, Array.all_eq_true', decide_eq_true_eq] at this
  exact this
 ·obtain ⟨e, he, hb, hon⟩ := h4 i hi
  exact ⟨e, he, hb, hon⟩
theorem push_get {i : Nat} (h : i < ops.size) : (ops.push o)[i]? = ops[i]? := by
 rw [Array.getElem?_push]
 rw [if_neg (by omega)]
theorem push_old {l : Array Bool} {i : Nat} (h : i < l.size) (b : Bool) : (l.push false).getD i b = l.getD i b := by
 simp only [Array.getD_eq_getD_getElem?, Array.getElem?_push]
 rw [if_neg (by omega)]
theorem getD_in' {l : Array Bool} {i : Nat} (h : i < l.size) (b c : Bool) : l.getD i b = l.getD i c := by
 simp [Array.getD_eq_getD_getElem?, h]
theorem ready_push (ok : LastOk md ops o) {l : Array Bool} (hl : l.size = ops.size) {i : Nat} (h : i ∈ Region.ready md (ops.push o) (l.push false)) : i ∈ Region.ready md ops l ∨ (i = ops.size ∧ ∀ j, j < ops.size → l.getD j true = true) := by
 obtain ⟨hun, x, hx, hall⟩ := mem_ready.1 h
 by_cases hi : i < ops.size
 ·rw [push_get hi] at hx
  rw [push_old (by omega)] at hun
  refine Or.inl (mem_ready.2 ⟨hun, x, hx, fun e he hb => ?_⟩)
  have := hall e he hb
  rwa [push_old (by have := (ok.one i x hx).2 e he; omega)] at this
 ·have hs := (Array.getElem?_eq_some_iff.1 hx).1
  have hin : i = ops.size := by
   simp at hs
   omega
  subst hin
  obtain rfl : o = x := by simpa using hx
  refine Or.inr ⟨rfl, fun j hj => ?_⟩
  obtain ⟨e, he, hb, hon⟩ := ok.waits j hj
  have := hall e he hb
  rw [hon, push_old (by omega)] at this
  rw [getD_in' (by omega) true false]
  exact this
theorem all_listed (ok : LastOk md ops o) {l : Array Bool} (hl : l.size = ops.size) (h : Region.ready md ops l = []) : ∀ j, j < ops.size → l.getD j true = true := by
 intro j
 induction j using Nat.strongRecOn with
 | ind j ih =>
  intro hj
  cases hc : l.getD j true with
  | true => rfl
  | false =>
   have hx : ops[j]? = some ops[j] := Array.getElem?_eq_getElem hj
   have : j ∈ Region.ready md ops l := mem_ready.2 ⟨hc, _, hx, fun e he hb => by
    have hlt := (ok.one j _ hx).2 e he
    have := ih e.on hlt (by omega)
    rw [getD_in' (by omega) true false] at this
    exact this⟩
   rw [h] at this
   cases this
theorem last_ready (ok : LastOk md ops o) {l : Array Bool} (hl : l.size = ops.size) (h : ∀ j, j < ops.size → l.getD j true = true) : ops.size ∈ Region.ready md (ops.push o) (l.push false) := by
 refine mem_ready.2 ⟨?_, o, by simp, fun e he hb => ?_⟩
 ·rw [Array.getD_eq_getD_getElem?, Array.getElem?_push, if_pos hl.symm]
  rfl
 ·have hlt := ok.below e he
  rw [push_old (by omega), getD_in' (by omega) false true]
  exact h _ hlt
theorem wpAny_over {l : Array Bool} {a : Act} {w : World} (hr : Region.ready md ops l = []) (h : Q .normal a w) : ∀ fuel, wpAny P md ops Q fuel l a w
 | 0 => ⟨hr, h⟩
 | _ + 1 => ⟨fun _ => h, by rw [hr]; simp⟩
theorem wpOp_push (ok : LastOk md ops o) {i : Nat} (hi : i < ops.size) {K : Act → World → Prop} {a : Act} {w : World} (h : wpOp P ops (AtLast P o Q) i K a w) : wpOp P (ops.push o) Q i K a w := by
 unfold wpOp at h ⊢
 rw [push_get hi]
 have hx : ops[i]? = some ops[i] := Array.getElem?_eq_getElem hi
 rw [hx] at h ⊢
 have hg := (ok.one i _ hx).1
 have hw : ∀ y, Region.wanted ops[i] y = true := fun y => by simp [Region.wanted, hg]
 simp only [hw, if_true] at h ⊢
 rcases h with h | ⟨h1, h2⟩
 ·exact Or.inl (wp_last_post h)
 ·exact Or.inr ⟨h1, letsOut_last h2⟩
theorem none_ready {l : Array Bool} (h : ∀ j, j < ops.size → l.getD j true = true) : Region.ready md ops l = [] := by
 apply List.eq_nil_iff_forall_not_mem.2
 intro i hi
 obtain ⟨hun, x, hx, _⟩ := mem_ready.1 hi
 rw [h i (Array.getElem?_eq_some_iff.1 hx).1] at hun
 cases hun
theorem last_step (ok : LastOk md ops o) {l : Array Bool} (hl : l.size = ops.size) (h : ∀ j, j < ops.size → l.getD j true = true) (fuel : Nat) {a : Act} {w : World} (hn : o.wp P a w (Q .normal) Q) : wpOp P (ops.push o) Q ops.size (wpAny P md (ops.push o) Q fuel ((l.push false).setIfInBounds ops.size true)) a w := by
 unfold wpOp
 have hx : (ops.push o)[ops.size]? = some o := by simp
 have hw : ∀ y, Region.wanted o y = true := fun y => by simp [Region.wanted, ok.guard]
 rw [hx]
 simp only [hw, if_true]
 refine Or.inl (Oper.wp_mono (fun a' w' h' => wpAny_over (none_ready fun j hj => ?_) h' fuel) hn)
 by_cases hj' : j < ops.size
 ·have := h j hj'
  simp only [Array.getD_eq_getD_getElem?] at this ⊢
  rw [Array.getElem?_setIfInBounds_ne (by omega), Array.getElem?_push, if_neg (by omega)]
  exact this
 ·have : j = ops.size := by simp at hj; omega
  subst this
  simp [Array.getD_eq_getD_getElem?, Array.getElem?_setIfInBounds_self, hl]
theorem wpAny_of_last (ok : LastOk md ops o) : ∀ (fuel : Nat) (l : Array Bool) (a : Act) (w : World), l.size = ops.size → wpAnyH P md ops (AtLast P o Q) S fuel l a w → wpAny P md (ops.push o) Q (fuel + 1) (l.push false) a w := by
 intro fuel
 induction fuel with
 | zero =>
  intro l a w hl h
  have hall := all_listed ok hl h.1
  refine ⟨fun hr => ?_, fun i hi => ?_⟩
  ·have := last_ready ok hl hall
   rw [hr] at this
   cases this
  ·rcases ready_push ok hl hi with hi | ⟨rfl, _⟩
   ·rw [h.1] at hi
    cases hi
   ·exact last_step ok hl hall 0 h.2
 | succ fuel ih =>
  intro l a w hl h
  refine ⟨fun hr => ?_, fun i hi => ?_⟩
  ·have hn : Region.ready md ops l = [] := by
    apply List.eq_nil_iff_forall_not_mem.2
    intro i hi
    obtain ⟨hun, x, hx, hall⟩ := mem_ready.1 hi
    have hi' := (Array.getElem?_eq_some_iff.1 hx).1
    have : i ∈ Region.ready md (ops.push o) (l.push false) := mem_ready.2 ⟨by rw [push_old (by omega)]; exact hun, x, by rw [push_get hi']; exact hx, fun e he hb => by
     rw [push_old (by have := (ok.one i x hx).2 e he; omega)]
     exact hall e he hb⟩
    rw [hr] at this
    cases this
   have := last_ready ok hl (all_listed ok hl hn)
   rw [hr] at this
   cases this
  ·rcases ready_push ok hl hi with hi | ⟨rfl, hall⟩
   ·obtain ⟨hun, x, hx, _⟩ := mem_ready.1 hi
    have hi' := (Array.getElem?_eq_some_iff.1 hx).1
    have h1 := wpOp_push ok hi' (h.2 i hi)
    refine wpOp_mono (fun a' w' h' => ?_) h1
    have h2 := ih _ a' w' (by simp [hl]) h'.2
    have e : (l.setIfInBounds i true).push false = (l.push false).setIfInBounds i true := by
     apply Array.ext_getElem?
     intro j
     simp only [Array.getElem?_push, Array.getElem?_setIfInBounds, Array.size_setIfInBounds, Array.size_push]
     by_cases hj : i = j
     ·subst hj
      rw [if_neg (by omega), if_pos rfl, if_pos rfl, if_pos (by omega), if_pos (by omega)]
     ·rw [if_neg hj, if_neg hj]
    rw [← e]
    exact h2
   ·exact last_step ok hl hall (fuel + 1) (h.1 (none_ready hall))
theorem wp_region_last {id : Nat} {a : Act} {w : World} {ops0 : Array Oper} (S : World → Prop) (hm : P.follows .mixedOrders = true) (h0 : ops = ops0.push o) (hB : lastB .any ops0 o = true) (hS : S w.drew)
  (h : S w.drew → wpAnyH P .any ops0 (AtLast P o Q) S ops0.size (Array.replicate ops0.size false) a w.drew) : (Code.region id ops true).wp P Q a w := by
 subst h0
 refine wp_region_any hm ?_
 have := wpAny_of_last (lastB_ok hB) _ _ _ _ (by simp) (h hS)
 have e : (Array.replicate ops0.size false).push false = Array.replicate (ops0.push o).size false := by
  rw [Array.size_push, Array.replicate_succ]
 rw [e] at this
 rw [show (ops0.push o).size = ops0.size + 1 by simp] at this ⊢
 exact this
theorem wp_region_last_lit {id : Nat} {a : Act} {w : World} {l : List Oper} (S : World → Prop) (n : Nat) (hm : P.follows .mixedOrders = true) (hn : l.length = n + 1) (h0 : l[n]? = some o) (hB : lastB .any l.dropLast.toArray o = true) (hS : S w.drew)
  (h : S w.drew → wpAnyH P .any l.dropLast.toArray (AtLast P o Q) S l.dropLast.length (Array.replicate l.dropLast.length false) a w.drew) : (Code.region id l.toArray true).wp P Q a w := by
 refine wp_region_last (o := o) (ops0 := l.dropLast.toArray) S hm ?_ hB hS h
 have : l = l.dropLast ++ [o] := by
  have hne : l ≠ [] := fun e => by rw [e] at hn; simp at hn
  have hl : l.getLast? = some o := by rw [List.getLast?_eq_getElem?, hn, Nat.add_sub_cancel, h0]
  rw [List.getLast?_eq_some_getLast hne] at hl
  rw [← Option.some.inj hl, List.dropLast_concat_getLast]
 rw [List.push_toArray, ← this]
theorem take_at {l : List Oper} {i : Nat} {oi : Oper} {v : Value} {fuel : Nat} {listed : Array Bool} {a : Act} {w : World} (hi : l[i]? = some oi) (hs : Region.noSelect l.toArray = true) (hf : Region.free md l.toArray listed i = true) (hr : (Region.ready md l.toArray listed).contains i = true)
  (hQ : ∀ c a w, Q (.panic c) (a.put oi.dst v) w → Q (.panic c) a w) (hw : Region.wanted oi (yielded l.toArray a.tmps) = true) (hy : ∀ w, S w → (execOp a.eval oi).run P w = .ok (.value v) w) (hS : S w)
  (h : wpAnyH P md l.toArray Q S fuel (listed.setIfInBounds i true) (a.put oi.dst v) w) : wpAnyH P md l.toArray Q S (fuel + 1) listed a w :=
 wpAnyH_take (by simpa using hi) hs hf hr hQ (Or.inl ⟨hw, hy⟩) hS h
theorem cons_at {l : List Oper} {fuel : Nat} {listed : Array Bool} {a : Act} {w : World} {i : Nat} {o : Oper} {rs : List Nat} (ho : l[i]? = some o)
  (h : ∀ K' : Act → World → Prop, Shut (∀ a w, S w → (S w → wpAnyH P md l.toArray Q S fuel (listed.setIfInBounds i true) a w) → K' a w) → if Region.wanted o (yielded l.toArray a.tmps) = true then Oper.wp P o a w K' Q else K' (a.put o.dst undef) w)
  (hs : AllReadyH P md l.toArray Q S fuel listed a w rs) : AllReadyH P md l.toArray Q S fuel listed a w (i :: rs) :=
 AllReadyH.cons (by simpa using ho) h hs
end
end Go.Proofs.YtpabdmcbahmjnaaGreat
namespace Go.Proofs.YtpabdmcbahmjnaaGreat
open Go Go.RowKit Go.MapKept
set_option linter.unusedSimpArgs false
set_option linter.unusedVariables false
def RowE (w : World) (B g n c : Nat) (l : List EvD) : Prop := w.ownsRow B 72 11 (.slice (some ⟨g, 0, none⟩) n c) n (l.flatMap EvD.cells) ∧ n = l.length
theorem cells11 (l : List EvD) : (l.flatMap EvD.cells).length = l.length * 11 := by
 induction l with
 | nil => rfl
 | cons e r ih => rw [List.flatMap_cons, List.length_append, ih, show e.cells.length = 11 from rfl, List.length_cons]; omega
theorem cells11_one (l : List EvD) : ∀ u ∈ l.flatMap EvD.cells, u.oneCell' = true := by
 intro u hu
 obtain ⟨e, _, he⟩ := List.mem_flatMap.1 hu
 exact evCells_one e u he
theorem cells11_take (l : List EvD) (k : Nat) : (l.flatMap EvD.cells).take (k * 11) = (l.take k).flatMap EvD.cells := by
 induction l generalizing k with
 | nil => simp
 | cons e r ih =>
  cases k with
  | zero => simp
  | succ k =>
   rw [List.flatMap_cons, List.take_succ_cons, List.flatMap_cons, ← ih k, List.take_append]
   have : e.cells.length = 11 := rfl
   rw [this, List.take_of_length_le (by rw [this]; omega), show (k + 1) * 11 - 11 = k * 11 by omega]
theorem cells11_drop (l : List EvD) (k : Nat) : (l.flatMap EvD.cells).drop (k * 11) = (l.drop k).flatMap EvD.cells := by
 induction l generalizing k with
 | nil => simp
 | cons e r ih =>
  cases k with
  | zero => simp
  | succ k =>
   rw [List.flatMap_cons, List.drop_succ_cons, ← ih k, List.drop_append]
   have : e.cells.length = 11 := rfl
   rw [this, List.drop_of_length_le (by rw [this]; omega), show (k + 1) * 11 - 11 = k * 11 by omega]
   rfl
theorem evs_src {w : World} {b off : Nat} {l : List EvD} (hc : ∀ k e, l[k]? = some e → ∀ j v, e.cells[j]? = some v → w.cell? ⟨b, off + k * 11 + j, none⟩ = some v) : ∀ j u, (l.flatMap EvD.cells)[j]? = some u → w.cell? ((⟨b, off, none⟩ : Addr).add j) = some u := by
 intro j u hu
 have hj : j < l.length * 11 := by rw [← cells11]; exact (List.getElem?_eq_some_iff.1 hu).1
 have hk : j / 11 < l.length := by omega
 have hm := flat11 l (j / 11) (j % 11) l[j / 11] (List.getElem?_eq_getElem hk) (by omega)
 rw [show j / 11 * 11 + j % 11 = j by omega, hu] at hm
 have := hc (j / 11) _ (List.getElem?_eq_getElem hk) (j % 11) u hm.symm
 rw [show off + j / 11 * 11 + j % 11 = off + j by omega] at this
 rw [Addr.add_lit]
 exact this
theorem RowE.at {w : World} {B g n c : Nat} {l : List EvD} (h : RowE w B g n c l) : EvsAt w (some ⟨g, 0, none⟩) l := by
 have := h.2
 exact evsAt_of_row h.1 this
theorem RowE.take {w : World} {B g n c : Nat} {l : List EvD} (h : RowE w B g n c l) {k : Nat} (hk : k ≤ n) : RowE w B g k c (l.take k) := by
 obtain ⟨⟨o1, o2⟩, hn⟩ := h
 refine ⟨⟨by rw [cells11, List.length_take]; omega, ?_⟩, by rw [List.length_take]; omega⟩
 rcases o2 with ⟨h1, _⟩ | ⟨g', cap', cur, h1, h2, h3, h4, h5, h6, h7⟩
 ·simp at h1
 ·simp only [Value.slice.injEq, Option.some.injEq, Addr.mk.injEq, and_true, true_and] at h1
  obtain ⟨rfl, rfl⟩ := h1
  refine Or.inr ⟨g, c, cur, rfl, h2, h3, by omega, h5, h6, ?_⟩
  rw [← cells11_take, ← h7, List.take_take, Nat.min_eq_left (Nat.mul_le_mul_right _ hk)]
theorem evs_set {w : World} {g off : Nat} {l : List EvD} {k : Nat} {e e' : EvD} {j : Nat} {v : Value} (h : EvsAt w (some ⟨g, off, none⟩) l) (he : l[k]? = some e) (hj : j < 11) (hc : ∀ i, e'.cells[i]? = if i = j then some v else e.cells[i]?) :
  EvsAt (w.setCell ⟨g, off + k * 11 + j, none⟩ v) (some ⟨g, off, none⟩) (l.set k e') := fun h0 => by
 rw [List.length_set] at h0
 obtain ⟨b, o, e1, hb, e3⟩ := h h0
 simp only [Option.some.injEq, Addr.mk.injEq, and_true] at e1
 obtain ⟨rfl, rfl⟩ := e1
 refine ⟨g, off, rfl, by show g < (w.heap.modify _ _).size; rw [Array.size_modify]; exact hb, fun i x hx q u hu => ?_⟩
 have hq : q < 11 := (List.getElem?_eq_some_iff.1 hu).1
 have hkl := (List.getElem?_eq_some_iff.1 he).1
 rw [List.getElem?_set] at hx
 by_cases hik : k = i
 ·subst hik
  rw [if_pos rfl, if_pos hkl] at hx
  obtain rfl := Option.some.inj hx
  rw [hc q] at hu
  by_cases hqj : q = j
  ·subst hqj
   rw [if_pos rfl] at hu
   rw [← Option.some.inj hu]
   have hs : ∃ x, e.cells[q]? = some x := ⟨_, List.getElem?_eq_getElem (by show q < 11; exact hq)⟩
   obtain ⟨x, hx⟩ := hs
   exact World.cell?_setCell_same _ _ _ (e3 k e he q x hx)
  ·rw [if_neg hqj] at hu
   rw [World.cell?_setCell_other _ _ _ _ (by intro hh; simp only [Addr.mk.injEq] at hh; omega)]
   exact e3 k e he q u hu
 ·rw [if_neg hik] at hx
  rw [World.cell?_setCell_other _ _ _ _ (by intro hh; simp only [Addr.mk.injEq] at hh; omega)]
  exact e3 i x hx q u hu
theorem evInfo_parts : ∃ i, Tryz.prog.info? 72 = some i ∧ i.size = 11 := by
 obtain ⟨i, h1, _, h2, _⟩ := info_parts3 evInfoH
 exact ⟨i, h1, h2⟩
theorem step_spare {ops : Array Oper} {o : Oper} {a : Act} {K : Act → World → Prop} {Q : Exit → Act → World → Prop} {E : Prop} (hgd : o.guard = none) (s x : Operand) (ho : o.op = .call { callee := .builtin .append, args := #[s, x], argTypes := #[35, 35] })
  (B : Nat) (w : World) (g n cap : Nat) (l : List EvD) (hs : a.eval s = .slice (some ⟨g, 0, none⟩) n cap) (hown : RowE w B g n cap l) (ad : Addr) (m c : Nat) (r : List EvD) (hx : a.eval x = .slice (some ad) m c) (hl : m = r.length) (hc : ∀ j u, (r.flatMap EvD.cells)[j]? = some u → w.cell? (ad.add j) = some u) (hroom : n + m ≤ cap)
  (hK : ∀ w', RowE w' B g (n + m) cap (l ++ r) → w.grownBy w' (some g) → K (a.put o.dst (.slice (some ⟨g, 0, none⟩) (n + m) cap)) w') : if Region.wanted o (yielded ops a.tmps) = true then Oper.wp Tryz.prog o a w K Q else E := by
 have hw : Region.wanted o (yielded ops a.tmps) = true := by simp [Region.wanted, hgd]
 rw [if_pos hw]
 obtain ⟨i0, hi, hz1⟩ := evInfo_parts
 obtain ⟨w', hr, h2, h3⟩ := run_append_own_spare (P := Tryz.prog) w B 35 o.type 72 i0 11 Tryz.underlying35 hi hz1 g n cap _ hown.1 ad m c _ (by rw [cells11, hl]) hc (cells11_one r) hroom
 unfold Oper.wp execOp
 simp only [ho, resolve, invoke, builtin, Sem.run_bind, Sem.run_pure, Result.andThen_ok, List.map_toArray, List.map_cons, List.map_nil, hs, hx, hr]
 exact hK w' ⟨by rw [List.flatMap_append]; exact h2, by rw [List.length_append, hown.2, hl]⟩ h3
theorem row_cap' {w : World} {B size n c : Nat} {e : TypeId} {A : Option Addr} {xs : List Value} (h : w.ownsRow B e size (.slice A n c) n xs) : n ≤ c := by
 rcases h.2 with ⟨h1, h2⟩ | ⟨g, cap, cur, h1, _, _, hnc, _⟩
 ·rw [h2]; exact Nat.zero_le _
 ·simp only [Value.slice.injEq] at h1
  obtain ⟨_, _, rfl⟩ := h1
  exact hnc
def ChPost (w : World) (e : Ending) (w' : World) : Prop := ∃ l, EvPost w l e w' ∧ EvsFit l
theorem set_fit {l : List EvD} (h : EvsFit l) {k : Nat} {e : EvD} (h1 : I64 e.thread) (h2 : I64 e.index) (h3 : e.res.Fit) : EvsFit (l.set k e) := by
 refine ⟨by rw [List.length_set]; exact h.len, fun x hx => ?_, fun x hx => ?_, fun x hx => ?_⟩
 all_goals (rcases List.mem_or_eq_of_mem_set hx with hx | rfl)
 ·exact h.thread x hx
 ·exact h1
 ·exact h.index x hx
 ·exact h2
 ·exact h.res x hx
 ·exact h3
theorem sub_fit {l r : List EvD} (h : EvsFit l) (hs : ∀ e ∈ r, e ∈ l) (hl : r.length ≤ 1048576) : EvsFit r :=
 ⟨hl, fun x hx => h.thread x (hs x hx), fun x hx => h.index x (hs x hx), fun x hx => h.res x (hs x hx)⟩
set_option maxRecDepth 100000 in
set_option maxHeartbeats 8000000 in
theorem changed_any (w : World) (A : Option Addr) (c : Nat) (l : List EvD) (fe : EvsFit l) (hB : EvsAt w A l) (hs : ∀ e ∈ l, (0 ≤ e.thread ∧ e.thread ≤ 1000) ∧ (0 ≤ e.index ∧ e.index ≤ 1000)) (hl : l.length ≤ 200) (p q : Int) (hp : I64 p) (hq : I64 q) :
  Calls Tryz.prog 17 #[.slice A l.length c, .int .i64 p, .int .i64 q] w (ChPost w) := by
 have HB := Lib.hid hB
 have FE := Lib.hid fe
 have HS := Lib.hid hs
 clear hB fe hs
 by_cases h0 : l.length = 0
 ·have hq0 : ((l.length : Int) == 0) = true := by rw [h0]; rfl
  have hz : l = [] := List.eq_nil_of_length_eq_zero h0
  subst hz
  go_enter Tryz.func17, Tryz.ntmps17
  go_wp2_with fail
  go_ret
  exact ⟨[], ⟨A, c, rfl, HB.out, Below.refl _ _⟩, FE.out⟩
 have hq0 : ((l.length : Int) == 0) = false := beq_false_of_ne (by omega)
 have hq1 : decide ((l.length : Int) = 0) = false := decide_eq_false (by omega)
 obtain ⟨b, off, rfl, hb, hc⟩ := HB.out (by omega)
 have SRC := Lib.hid (evs_src hc)
 clear hc
 go_enter Tryz.func17, Tryz.ntmps17
 go_wp2_with (first | (go_at_call 10; refine stopAt ?_))
 unfold StopAt
 refine (mod_any w p l.length hp.1 hp.2 (by omega) (by omega)).mono ?_
 rintro e w1 ⟨k', rfl, k0, k1, hb1⟩
 obtain ⟨k, rfl⟩ : ∃ k : Nat, k' = k := ⟨k'.toNat, by omega⟩
 have B1 := Lib.hid hb1
 have S1 : Hid (∀ j u, (l.flatMap EvD.cells)[j]? = some u → w1.cell? ((⟨b, off, none⟩ : Addr).add j) = some u) := fun j u hu => by
  have h := SRC.out j u hu
  rw [Addr.add_lit] at h ⊢
  exact (hb1.cell (p := ⟨b, _, none⟩) hb).trans h
 have hb' : b < w1.heap.size := Nat.lt_of_lt_of_le hb hb1.size
 clear hb1 hq0
 go_wp2_with (at_builtin; refine stopAt ?_)
 unfold StopAt
 refine wpList_app 35 72 Tryz.underlying35 _ 11 96 evInfoH rfl (by decide) rfl _ _ rfl w1.heap.size _ _ _ _ rfl (World.ownsRow_lit w1 #[] 0 (Nat.le_refl _) (by unfold maxLen; omega) rfl) ⟨b, off, none⟩ l.length c (l.flatMap EvD.cells) rfl (cells11 l) ?_ (cells11_one l) (by simp) (by unfold maxLen; omega) (by omega) ?_
 ·intro j u hu
  have h := S1.out j u hu
  rw [Addr.add_lit] at h ⊢
  exact (World.cell?_of_block (a := ⟨b, _, none⟩) (Below.heap_alloc w1 _ b hb')).trans h
 intro a2 c2 w2 ho2 hg2
 simp only [List.nil_append, Nat.zero_add] at ho2
 obtain ⟨g, cg, hv⟩ := row_some ho2 (by omega)
 simp only [Value.slice.injEq, true_and] at hv
 obtain ⟨rfl, rfl⟩ := hv
 have R2 : Hid (RowE w2 w1.heap.size g l.length c2 l) := ⟨ho2, rfl⟩
 have B2 : Hid (Below w.heap.size w w2) := B1.out.trans (grown_below hg2 B1.out.size (fun k hk => by
  have : w1.heap.size = k := by simpa [Act.eval, Value.ownBlock] using hk
  have := B1.out.size
  omega))
 have hg1 : w.heap.size ≤ g := Nat.le_trans B1.out.size (row_kind ho2 rfl).1
 have hcap := row_cap' ho2
 clear ho2 hg2 S1 SRC
 simp only [Nat.zero_add]
 go_wp2_with (first | (go_at_call 10; refine stopAt ?_))
 unfold StopAt
 refine (mod_any w2 q 6 hq.1 hq.2 (by omega) (by omega)).mono ?_
 rintro e w3 ⟨m', rfl, m0, m1, hb3⟩
 have B3 := Lib.hid (B2.out.trans (hb3.mono B2.out.size))
 have R3 : Hid (RowE w3 w1.heap.size g l.length c2 l) := ⟨row_keep R2.out.1 (fun x hx => hb3.block x (row_lt R2.out.1 hx)), rfl⟩
 clear hb3
 obtain ⟨_, cur, hcur⟩ := row_kind R3.out.1 (g := g) rfl
 have FZ : ∀ i, w3.frozen? ⟨g, i, none⟩ = false := fun i => by simp [World.frozen?, hcur]
 clear hcur
 obtain ⟨e, hx⟩ : ∃ e, l[k]? = some e := ⟨_, List.getElem?_eq_getElem (by omega)⟩
 have hme := List.mem_of_getElem? hx
 obtain ⟨⟨s1, s2⟩, s3, s4⟩ := HS.out e hme
 have FR := Lib.hid (FE.out.res e hme)
 have f2 := FR.out.value
 obtain ⟨g', off', he', _, hc⟩ := R3.out.at (by omega)
 simp only [Option.some.injEq, Addr.mk.injEq, and_true] at he'
 obtain ⟨rfl, rfl⟩ := he'
 obtain ⟨e0, e1, e2⟩ := ev_cells (hc k e hx)
 obtain ⟨g0, g1, g2, g3, g4, g5, g6, g7⟩ := ev_res (hc k e hx)
 simp only [Nat.zero_add] at e0 e1 e2 g0 g1 g2 g3 g4 g5 g6 g7
 have z0 := FZ (k * 11)
 have z1 := FZ (k * 11 + 1)
 have z2 := FZ (k * 11 + 2)
 have z5 := FZ (k * 11 + 5)
 have HX := Lib.hid hx
 have E3 := Lib.hid R3.out.at
 clear hc hx hme FZ
 obtain ⟨th, ix, rt, rs⟩ := e
 obtain ⟨r0, r1, r2, r3, r4, r5, r6, r7⟩ := rs
 simp only at s1 s2 s3 s4 f2 e0 e1 e2 g0 g1 g2 g3 g4 g5 g6 g7
 have hk0 : (0 : Int) ≤ k := by omega
 have hk1 : (k : Int) < l.length := by omega
 have hm : m' = 0 ∨ m' = 1 ∨ m' = 2 ∨ m' = 3 ∨ m' = 4 ∨ m' = 5 := by omega
 rcases hm with rfl | rfl | rfl | rfl | rfl | rfl
 ·go_wp2_with fail
  go_ret
  have hE := evs_set (e' := ⟨th + 1, ix, rt, ⟨r0, r1, r2, r3, r4, r5, r6, r7⟩⟩) (j := 0) E3.out HX.out (by omega) (fun i => by
   match i with
   | 0 | 1 | 2 | 3 | 4 | 5 | 6 | 7 | 8 | 9 | 10 => rfl
   | i + 11 => rfl)
  simp only [Nat.zero_add, Nat.add_zero] at hE
  exact ⟨l.set k ⟨th + 1, ix, rt, ⟨r0, r1, r2, r3, r4, r5, r6, r7⟩⟩, ⟨some ⟨g, 0, none⟩, c2, by rw [List.length_set]; rfl, hE, below_set B3.out hg1⟩, set_fit FE.out ⟨by simp only; omega, by simp only; omega⟩ ⟨by simp only; omega, by simp only; omega⟩ FR.out⟩
 ·go_wp2_with fail
  go_ret
  have hE := evs_set (e' := ⟨th, ix + 1, rt, ⟨r0, r1, r2, r3, r4, r5, r6, r7⟩⟩) (j := 1) E3.out HX.out (by omega) (fun i => by
   match i with
   | 0 | 1 | 2 | 3 | 4 | 5 | 6 | 7 | 8 | 9 | 10 => rfl
   | i + 11 => rfl)
  simp only [Nat.zero_add, Nat.add_zero] at hE
  exact ⟨l.set k ⟨th, ix + 1, rt, ⟨r0, r1, r2, r3, r4, r5, r6, r7⟩⟩, ⟨some ⟨g, 0, none⟩, c2, by rw [List.length_set]; rfl, hE, below_set B3.out hg1⟩, set_fit FE.out ⟨by simp only; omega, by simp only; omega⟩ ⟨by simp only; omega, by simp only; omega⟩ FR.out⟩
 ·go_wp2_with fail
  go_ret
  have hE := evs_set (e' := ⟨th, ix, !rt, ⟨r0, r1, r2, r3, r4, r5, r6, r7⟩⟩) (j := 2) E3.out HX.out (by omega) (fun i => by
   match i with
   | 0 | 1 | 2 | 3 | 4 | 5 | 6 | 7 | 8 | 9 | 10 => rfl
   | i + 11 => rfl)
  simp only [Nat.zero_add, Nat.add_zero] at hE
  exact ⟨l.set k ⟨th, ix, !rt, ⟨r0, r1, r2, r3, r4, r5, r6, r7⟩⟩, ⟨some ⟨g, 0, none⟩, c2, by rw [List.length_set]; rfl, hE, below_set B3.out hg1⟩, set_fit FE.out ⟨by simp only; omega, by simp only; omega⟩ ⟨by simp only; omega, by simp only; omega⟩ FR.out⟩
 ·have hw0 : 0 ≤ IntKind.u64.wrap (r2 + 1) ∧ IntKind.u64.wrap (r2 + 1) ≤ 18446744073709551615 := by rw [IntKind.wrap_u64]; omega
  have HW0 := Lib.hid hw0
  clear hw0
  go_wp2_with fail
  go_ret
  have hE := evs_set (e' := ⟨th, ix, rt, ⟨r0, r1, IntKind.u64.wrap (r2 + 1), r3, r4, r5, r6, r7⟩⟩) (j := 5) E3.out HX.out (by omega) (fun i => by
   match i with
   | 0 | 1 | 2 | 3 | 4 | 5 | 6 | 7 | 8 | 9 | 10 => rfl
   | i + 11 => rfl)
  simp only [Nat.zero_add] at hE
  exact ⟨l.set k _, ⟨some ⟨g, 0, none⟩, c2, by rw [List.length_set]; rfl, hE, below_set B3.out hg1⟩, set_fit FE.out ⟨by simp only; omega, by simp only; omega⟩ ⟨by simp only; omega, by simp only; omega⟩ ⟨FR.out.err, HW0.out, FR.out.key, FR.out.count, FR.out.ref, FR.out.root⟩⟩
 ·have R4 : RowE w3.drew w1.heap.size g k c2 (l.take k) := R3.out.take (w := w3.drew) (by omega)
  have SR : ∀ j u, ((l.drop (k + 1)).flatMap EvD.cells)[j]? = some u → w3.drew.cell? ((⟨g, (k + 1) * 11, none⟩ : Addr).add j) = some u := fun j u hu => by
   rw [← cells11_drop, List.getElem?_drop] at hu
   have := R3.out.1.cells (g := g) rfl _ u hu
   rw [Addr.add_lit] at this ⊢
   rw [Nat.zero_add] at this
   exact this
  have hdl : (l.drop (k + 1)).length = l.length - (k + 1) := List.length_drop
  have R4' := Lib.hid R4
  have SR' := Lib.hid SR
  clear R4 SR e0 e1 e2 g0 g1 g2 g3 g4 g5 g6 g7 z0 z1 z2 z5
  go_upto_region 15 with fail
  by_cases hcp : c2 = k + 1
  ·have hlk : l.length = k + 1 := by omega
   have hs1 : (k : Int) ≤ (k : Int) + 1 := by omega
   have hwr : IntKind.i64.wrap ((k : Int) + 1) = (k : Int) + 1 := IntWalk.i64_in _ (by omega)
   have hs5 : (0 : Int) ≤ (k : Int) + 1 := by omega
   have htn : ((k : Int) + 1).toNat = k + 1 := by omega
   subst hcp
   refine wp_region_last_lit (fun _ => True) 8 (by kernel_rfl) rfl rfl (by kernel_rfl) trivial (fun hHeld => ?_)
   simp only [List.dropLast_cons_cons, List.dropLast_singleton, List.length_cons, List.length_nil, Nat.zero_add, Nat.reduceAdd]
   ((refine take_at (i := 0) (v := ?_) rfl (by kernel_rfl) (by kernel_rfl) (by kernel_rfl) (fun _ _ _ h => h) (by rfl) ?_ (by assumption) ?_); rotate_left; (focus (intro wz hSw; go_simp; (try (with_reducible rfl)))); (try simp only [Act.put, List.setIfInBounds_toArray, List.set_cons_zero, List.set_cons_succ]))
   ((refine take_at (i := 1) (v := ?_) rfl (by kernel_rfl) (by kernel_rfl) (by kernel_rfl) (fun _ _ _ h => h) (by rfl) ?_ (by assumption) ?_); rotate_left; (focus (intro wz hSw; go_simp; (try (with_reducible rfl)))); (try simp only [Act.put, List.setIfInBounds_toArray, List.set_cons_zero, List.set_cons_succ]))
   ((refine take_at (i := 2) (v := ?_) rfl (by kernel_rfl) (by kernel_rfl) (by kernel_rfl) (fun _ _ _ h => h) (by rfl) ?_ (by assumption) ?_); rotate_left; (focus (intro wz hSw; go_simp; (try (with_reducible rfl)))); (try simp only [Act.put, List.setIfInBounds_toArray, List.set_cons_zero, List.set_cons_succ]))
   ((refine take_at (i := 3) (v := ?_) rfl (by kernel_rfl) (by kernel_rfl) (by kernel_rfl) (fun _ _ _ h => h) (by rfl) ?_ (by assumption) ?_); rotate_left; (focus (intro wz hSw; go_simp; (try (with_reducible rfl)))); (try simp only [Act.put, List.setIfInBounds_toArray, List.set_cons_zero, List.set_cons_succ]))
   ((refine take_at (i := 4) (v := ?_) rfl (by kernel_rfl) (by kernel_rfl) (by kernel_rfl) (fun _ _ _ h => h) (by rfl) ?_ (by assumption) ?_); rotate_left; (focus (intro wz hSw; go_simp; (try (with_reducible rfl)))); (try simp only [Act.put, List.setIfInBounds_toArray, List.set_cons_zero, List.set_cons_succ]))
   ((refine take_at (i := 5) (v := ?_) rfl (by kernel_rfl) (by kernel_rfl) (by kernel_rfl) (fun _ _ _ h => h) (by rfl) ?_ (by assumption) ?_); rotate_left; (focus (intro wz hSw; go_simp; (try (with_reducible rfl)))); (try simp only [Act.put, List.setIfInBounds_toArray, List.set_cons_zero, List.set_cons_succ]))
   ((refine take_at (i := 6) (v := ?_) rfl (by kernel_rfl) (by kernel_rfl) (by kernel_rfl) (fun _ _ _ h => h) (by rfl) ?_ (by assumption) ?_); rotate_left; (focus (intro wz hSw; go_simp; (try (with_reducible rfl)))); (try simp only [Act.put, List.setIfInBounds_toArray, List.set_cons_zero, List.set_cons_succ]))
   refine wpAnyH_ready (rs := [7]) (by kernel_rfl) (by simp) ?_
   refine cons_at rfl (fun K hK => ?_) ?_
   ·refine step_spare rfl _ _ rfl w1.heap.size _ g k (k + 1) _ rfl R4'.out _ _ _ (l.drop (k + 1)) rfl (by omega) (fun j u hu => absurd hu (by rw [List.drop_of_length_le (by omega)]; simp)) (by omega) ?_
    intro w5 hr5 hg5
    have R5 := Lib.hid hr5
    have B5 := Lib.hid (B3.out.drew.trans (rgrown_below hg5 B3.out.size (fun x hx => by have : g = x := Option.some.inj hx; omega)))
    clear hr5 hg5
    refine hK.out _ _ trivial (fun hHeld => ?_)
    clear hK K
    try simp only [Act.put, List.setIfInBounds_toArray, List.set_cons_zero, List.set_cons_succ]
    refine wpAnyH_done (by kernel_rfl) ?_ _
    simp only [AtLast]
    go_simp
    go_wp2_with fail
    go_ret
    exact ⟨_, ⟨some ⟨g, 0, none⟩, _, by rw [← R5.out.2]; rfl, R5.out.at, B5.out⟩, sub_fit FE.out (fun e he => (List.mem_append.1 he).elim List.mem_of_mem_take List.mem_of_mem_drop) (by have := R5.out.2; omega)⟩
   ·exact AllReadyH.nil
  ·have hs1 : k ≤ c2 := by omega
   have hs2 : k + 1 ≤ c2 := by omega
   have hs3 : k + 1 ≤ l.length := by omega
   have hwr : IntKind.i64.wrap ((k : Int) + 1) = (k : Int) + 1 := IntWalk.i64_in _ (by omega)
   have hs5 : (0 : Int) ≤ (k : Int) + 1 := by omega
   have hs6 : (k : Int) + 1 ≤ l.length := by omega
   have htn : ((k : Int) + 1).toNat = k + 1 := by omega
   refine wp_region_last_lit (fun _ => True) 8 (by kernel_rfl) rfl rfl (by kernel_rfl) trivial (fun hHeld => ?_)
   simp only [List.dropLast_cons_cons, List.dropLast_singleton, List.length_cons, List.length_nil, Nat.zero_add, Nat.reduceAdd]
   ((refine take_at (i := 0) (v := ?_) rfl (by kernel_rfl) (by kernel_rfl) (by kernel_rfl) (fun _ _ _ h => h) (by rfl) ?_ (by assumption) ?_); rotate_left; (focus (intro wz hSw; go_simp; (try (with_reducible rfl)))); (try simp only [Act.put, List.setIfInBounds_toArray, List.set_cons_zero, List.set_cons_succ]))
   ((refine take_at (i := 1) (v := ?_) rfl (by kernel_rfl) (by kernel_rfl) (by kernel_rfl) (fun _ _ _ h => h) (by rfl) ?_ (by assumption) ?_); rotate_left; (focus (intro wz hSw; go_simp; (try (with_reducible rfl)))); (try simp only [Act.put, List.setIfInBounds_toArray, List.set_cons_zero, List.set_cons_succ]))
   ((refine take_at (i := 2) (v := ?_) rfl (by kernel_rfl) (by kernel_rfl) (by kernel_rfl) (fun _ _ _ h => h) (by rfl) ?_ (by assumption) ?_); rotate_left; (focus (intro wz hSw; go_simp; (try (with_reducible rfl)))); (try simp only [Act.put, List.setIfInBounds_toArray, List.set_cons_zero, List.set_cons_succ]))
   ((refine take_at (i := 3) (v := ?_) rfl (by kernel_rfl) (by kernel_rfl) (by kernel_rfl) (fun _ _ _ h => h) (by rfl) ?_ (by assumption) ?_); rotate_left; (focus (intro wz hSw; go_simp; (try (with_reducible rfl)))); (try simp only [Act.put, List.setIfInBounds_toArray, List.set_cons_zero, List.set_cons_succ]))
   ((refine take_at (i := 4) (v := ?_) rfl (by kernel_rfl) (by kernel_rfl) (by kernel_rfl) (fun _ _ _ h => h) (by rfl) ?_ (by assumption) ?_); rotate_left; (focus (intro wz hSw; go_simp; (try (with_reducible rfl)))); (try simp only [Act.put, List.setIfInBounds_toArray, List.set_cons_zero, List.set_cons_succ]))
   ((refine take_at (i := 5) (v := ?_) rfl (by kernel_rfl) (by kernel_rfl) (by kernel_rfl) (fun _ _ _ h => h) (by rfl) ?_ (by assumption) ?_); rotate_left; (focus (intro wz hSw; go_simp; (try (with_reducible rfl)))); (try simp only [Act.put, List.setIfInBounds_toArray, List.set_cons_zero, List.set_cons_succ]))
   ((refine take_at (i := 6) (v := ?_) rfl (by kernel_rfl) (by kernel_rfl) (by kernel_rfl) (fun _ _ _ h => h) (by rfl) ?_ (by assumption) ?_); rotate_left; (focus (intro wz hSw; go_simp; (try (with_reducible rfl)))); (try simp only [Act.put, List.setIfInBounds_toArray, List.set_cons_zero, List.set_cons_succ]))
   refine wpAnyH_ready (rs := [7]) (by kernel_rfl) (by simp) ?_
   refine cons_at rfl (fun K hK => ?_) ?_
   ·refine step_spare rfl _ _ rfl w1.heap.size _ g k c2 _ rfl R4'.out _ _ _ (l.drop (k + 1)) rfl hdl.symm SR'.out (by omega) ?_
    intro w5 hr5 hg5
    have R5 := Lib.hid hr5
    have B5 := Lib.hid (B3.out.drew.trans (rgrown_below hg5 B3.out.size (fun x hx => by have : g = x := Option.some.inj hx; omega)))
    clear hr5 hg5
    refine hK.out _ _ trivial (fun hHeld => ?_)
    clear hK K
    try simp only [Act.put, List.setIfInBounds_toArray, List.set_cons_zero, List.set_cons_succ]
    refine wpAnyH_done (by kernel_rfl) ?_ _
    simp only [AtLast]
    go_simp
    go_wp2_with fail
    go_ret
    exact ⟨_, ⟨some ⟨g, 0, none⟩, _, by rw [← R5.out.2]; rfl, R5.out.at, B5.out⟩, sub_fit FE.out (fun e he => (List.mem_append.1 he).elim List.mem_of_mem_take List.mem_of_mem_drop) (by have := R5.out.2; omega)⟩
   ·exact AllReadyH.nil
 ·have R6 := Lib.hid (R3.out.1.alloc (.cells #[.int .i64 th, .int .i64 ix, .bool rt, .int .i64 r0, .bool r1, .int .u64 r2, .string r3, .int .i64 r4, .int .i64 r5, .int .i64 r6, .bool r7] 72))
  have hw3 : w1.heap.size ≤ w3.heap.size := by have := (row_kind R3.out.1 (g := g) rfl).1; have := row_lt R3.out.1 (g := g) rfl; omega
  go_wp2_with (at_builtin; refine stopAt ?_)
  unfold StopAt
  refine wpList_app 35 72 Tryz.underlying35 _ 11 96 evInfoH rfl (by decide) rfl _ _ rfl w1.heap.size _ (.slice (some ⟨g, 0, none⟩) l.length c2) l.length _ rfl R6.out ⟨w3.heap.size, 0, none⟩ 1 1 (EvD.cells ⟨th, ix, rt, ⟨r0, r1, r2, r3, r4, r5, r6, r7⟩⟩) rfl rfl ?_ (evCells_one _) ?_ ?_ ?_ ?_
  ·exact evCells_box (e := ⟨th, ix, rt, ⟨r0, r1, r2, r3, r4, r5, r6, r7⟩⟩) (heap_alloc w3 _).1
  ·simp; omega
  ·unfold maxLen; omega
  ·omega
  intro a6 c6 w6 ho6 hg6
  have O6 := Lib.hid ho6
  have B6 := Lib.hid (B3.out.trans (grown_below hg6 B3.out.size (fun x hx => by have : g = x := Option.some.inj hx; omega)))
  clear ho6 hg6
  go_wp2_with fail
  go_ret
  refine ⟨l ++ [⟨th, ix, rt, ⟨r0, r1, r2, r3, r4, r5, r6, r7⟩⟩], ⟨a6, c6, by rw [List.length_append]; rfl, evsAt_of_row (n := l.length + 1) (by rw [List.flatMap_append]; exact O6.out) (by rw [List.length_append]; rfl), B6.out⟩, FE.out.snoc (by omega) ⟨by simp only; omega, by simp only; omega⟩ ⟨by simp only; omega, by simp only; omega⟩ FR.out⟩
end Go.Proofs.YtpabdmcbahmjnaaGreat
