/- The walk of package linz' Decide. The walk of the reference's Same. -/
import Derived.Test.YtbmoehndnbbhcaaGreatDoorZFw
namespace Go.Proofs.YtbmoehndnbbhcaaGreatDoor
set_option linter.unusedVariables false
set_option linter.unusedSimpArgs false
open Go Go.RowKit Go.MapKept
/-- the error of Decide -/
noncomputable def errD (ts : List (List OpD)) (l : List EvD) : Int := if checkP (lens ts) l ≠ 0 then checkP (lens ts) l else if 16 < (invokedP l).length then 3 else 0
theorem srOf_fit {ts : List (List OpD)} {l : List EvD} (h : (candsP ts l).length ≤ 16) : SrFit (srOf ts l) := by
  refine ⟨h, by simp [srOf], by simp [srOf], by simp [srOf], by simp [srOf], bitsB_32 _ (by omega), fun x hx => ?_⟩
  simp only [srOf, List.mem_map] at hx
  obtain ⟨i, _, rfl⟩ := hx
  exact bitsB_32 _ (by omega)
/-- how the search is known to be exact -/
structure ExHyp (ts : List (List OpD)) (l : List EvD) (m : Int) (E : Prop) (R : Nat → AFam → Prop) : Prop where
  zero : E → R 0 (famO m)
  same : E → ∀ S A B, R S A → R S B → WinP (srOf ts l) ts l S B → WinP (srOf ts l) ts l S A
  next : E → ∀ S i A a, R S A → (srOf ts l).cands[i]? = some a → ¬ closedP (srOf ts l) S i → fitsP (srOf ts l) l i a (applyA A a.1 a.2 (opAt ts a)).2 → R (S ||| 2 ^ i) (applyA A a.1 a.2 (opAt ts a)).1
def DePost (w : World) (m : Int) (ts : List (List OpD)) (l : List EvD) (E : Prop) (e : Ending) (w' : World) : Prop :=
  ∃ (A1 : Option Addr) (n c : Nat) (b : Bool), e = .returned (.tuple #[.slice A1 n c, .bool b, .int .i64 (errD ts l)]) ∧ Below w.heap.size w w' ∧ (errD ts l ≠ 0 → b = false) ∧
    (b = true → ∃ o, n = o.length ∧ SolP (srOf ts l) ts l 0 (famO m) [] o ∧ OrdAt w' A1 o ∧ o.length ≤ 100000) ∧
    (b = false → errD ts l = 0 → excusedP ts l = true → E → ¬ WinP (srOf ts l) ts l 0 (famO m))
theorem DePost.no {w w' : World} {m : Int} {ts : List (List OpD)} {l : List EvD} {E : Prop} {q : Int} (hq : q = errD ts l) (hb : Below w.heap.size w w') (h : errD ts l = 0 → excusedP ts l = true → E → ¬ WinP (srOf ts l) ts l 0 (famO m)) : DePost w m ts l E (.returned (.tuple #[.slice none 0 0, .bool false, .int .i64 q])) w' :=
  ⟨none, 0, 0, false, by rw [hq], hb, fun _ => rfl, fun h => by simp at h, fun _ => h⟩
set_option maxRecDepth 100000 in
set_option maxHeartbeats 4000000 in
theorem decide_any (w : World) (mask : Int) (m0 : 0 ≤ mask) (m1 : mask ≤ 18446744073709551615) (A B : Option Addr) (c d : Nat) (ts : List (List OpD)) (l : List EvD) (hA : ThrAt w A ts) (hB : EvsAt w B l) (ft : ThrFit ts) (fe : EvsFit l) (vt : ValT ts) (tb : TabB w.heap.size w) (E : Prop) (R : Nat → AFam → Prop) (ex : ExHyp ts l mask E R) :
    Calls Tryz.prog 6 #[.int .u64 mask, .slice A ts.length c, .slice B l.length d] w (DePost w mask ts l E) := by
  have HA := Lib.hid hA
  have HB := Lib.hid hB
  have FT := Lib.hid ft
  have FE := Lib.hid fe
  have VT := Lib.hid vt
  have TB := Lib.hid tb
  have EX := Lib.hid ex
  clear hA hB ft fe vt tb ex
  go_enter Tryz.func6, Tryz.ntmps6
  go_wp2_with (first | (go_at_call 12; refine stopAt ?_))
  unfold StopAt
  refine (hcheck_any w A B c d ts l HA.out HB.out FT.out FE.out).mono ?_
  rintro e w1 ⟨rfl, hb1⟩
  have B1 := Lib.hid hb1
  clear hb1
  by_cases hc : checkP (lens ts) l = 0
  case neg =>
    have hq : Hid (checkP (lens ts) l = errD ts l) := Lib.hid (by unfold errD; rw [if_pos hc])
    have hcb : (checkP (lens ts) l != 0) = true := by simpa using hc
    have PP : Hid (DePost w mask ts l E (.returned (.tuple #[.slice none 0 0, .bool false, .int .i64 (checkP (lens ts) l)])) w1) := Lib.hid (.no hq.out B1.out fun h0 => absurd (hq.out.trans h0) hc)
    generalize checkP (lens ts) l = q at *
    go_wp2_with fail
    refine bodyPost_ret (v := .tuple #[.slice none 0 0, .bool false, .int .i64 q]) (by simp [results, Tryz.results6, go_sem]) rfl PP.out
  have HC := Lib.hid hc
  rw [HC.out]
  clear hc
  have IV := Lib.hid (hinvoked_any w1 B d l FE.out (HB.out.below B1.out))
  go_wp2_with (first | (go_at_call 13; refine stopAt ?_))
  unfold StopAt
  refine IV.out.mono ?_
  rintro e w2 ⟨A2, c2, rfl, ho2, hb2⟩
  have B2 := Lib.hid (B1.out.trans (hb2.mono B1.out.size))
  clear ho2 hb2 IV
  by_cases h16 : (invokedP l).length ≤ 16
  case neg =>
    have hgt : (16 : Int) < (invokedP l).length := by omega
    have PP : Hid (DePost w mask ts l E (.returned (.tuple #[.slice none 0 0, .bool false, .int .i64 3])) w2) := by
      have hq : (3 : Int) = errD ts l := by unfold errD; rw [if_neg (by simp [HC.out]), if_pos (by omega)]
      exact Lib.hid (.no hq B2.out fun h0 => by rw [← hq] at h0; exact absurd h0 (by decide))
    go_wp2_with fail
    refine bodyPost_ret (v := .tuple #[.slice none 0 0, .bool false, .int .i64 3]) (by simp [results, Tryz.results6, go_sem]) rfl PP.out
  have hle : ¬ (16 : Int) < (invokedP l).length := by omega
  have EZ := Lib.hid (show (0 : Int) = errD ts l by unfold errD; rw [if_neg (by simp [HC.out]), if_neg (by omega)])
  go_wp2_with (first | (go_at_call 14; refine stopAt ?_))
  unfold StopAt
  refine (newrec_any w2 A B c d ts l (HA.out.below B2.out) (HB.out.below B2.out) FT.out FE.out (check_zero HC.out).2 (check_zero HC.out).1).mono ?_
  rintro e w3 ⟨rfl, hrec, hb3⟩
  have B3 := Lib.hid (B2.out.trans (hb3.mono B2.out.size))
  have RC := Lib.hid hrec
  generalize hrb : w2.heap.size = rb at *
  clear hrb hb3 hrec hle
  go_wp2_with (first | (go_at_call 15; refine stopAt ?_))
  unfold StopAt
  refine (ljustified_any w3 rb ts l RC.out).mono ?_
  rintro e wN ⟨rfl, hb4⟩
  have B4 := Lib.hid (B3.out.trans (hb4.mono B3.out.size))
  have RCN := Lib.hid (RC.out.below hb4)
  clear hb4
  cases he : excusedP ts l with
  | false =>
    have PP : Hid (DePost w mask ts l E (.returned (.tuple #[.slice none 0 0, .bool false, .int .i64 0])) wN) := Lib.hid (.no EZ.out B4.out fun _ h => by rw [he] at h; simp at h)
    clear he
    go_wp2_with fail
    refine bodyPost_ret (v := .tuple #[.slice none 0 0, .bool false, .int .i64 0]) (by simp [results, Tryz.results6, go_sem]) rfl PP.out
  | true =>
  clear he RC
  go_wp2_with (first | (go_at_call 16; refine stopAt ?_))
  unfold StopAt
  refine (newsearch_any wN rb ts l RCN.out h16).mono ?_
  rintro e w5 ⟨rfl, hsr, hmp, hb5⟩
  have SR := Lib.hid hsr
  have MP := Lib.hid hmp
  have B5 := Lib.hid hb5
  clear hsr hmp hb5
  have hc16 : (candsP ts l).length ≤ 16 := Nat.le_trans (candT_len ts l ts.length 0) h16
  go_wp2_with (first | (go_at_call 18; refine stopAt ?_))
  unfold StopAt
  refine (new_A w5 mask).mono ?_
  rintro e w6 ⟨rfl, hb6, hz6, F0, hfi, hfa, hfo⟩
  have B6 := Lib.hid (B5.out.trans (hb6.mono B5.out.size))
  have hfm : wN.heap.size + 1 < w5.heap.size := by
    obtain ⟨C, cc, Ea, ce, K, ck, Rd, cr, M, cm, h0, _⟩ := SR.out.box
    exact (Array.getElem?_eq_some_iff.1 h0).1
  have FC := Lib.hid (from_any wN w6 rb ts l (srOf ts l) (fun S => E → ∀ A, R S A → ¬ WinP (srOf ts l) ts l S A) E R ⟨fun _ h => h, fun _ h => h, EX.out.same, EX.out.next, fun a ha => (cands_mem ha).1, VT.out, FE.out⟩ 65536 w6 0 (famO mask) 1 (w5.heap.size + 3) w5.heap.size (w5.heap.size + 2) F0 (.slice none 0 0) [] (by omega) (by omega) (by omega) (by simp)
    ⟨RCN.out, fun W hW => TB.out W (B4.out.trans (hW.mono B4.out.size)), B6.out, srOf_fit hc16, SR.out.below hb6, ⟨_, _, (hb6.block _ (by omega)).trans MP.out⟩, Nat.le_refl _, fun _ _ _ => rfl, MemoW.made _ ((hb6.block _ (by omega)).trans MP.out)⟩
    ⟨hfi, by rw [hfa]; exact EqvA.refl _, nd_O mask, famO_ok mask m0 m1, by simp [famO], val_O mask⟩ (World.ownsRow_nil _ _ _ _) (fun k hk => ⟨by have := hfo k hk; unfold blk4 at this; omega, by simp [Value.ownBlock]⟩) EX.out.zero)
  clear hfi hfa hfo hb6 hz6
  go_wp2_with (first | (go_at_call 17; refine stopAt ?_))
  unfold StopAt
  refine FC.out.mono ?_
  rintro e w7 ⟨ho7, hl7, hm7, A7, n7, c7, b7, rfl, hn7, hy7⟩
  have PP : Hid (DePost w mask ts l E (.returned (.tuple #[.slice A7 n7 c7, .bool b7, .int .i64 0])) w7) := by
    have hb : Below w.heap.size w w7 := by
      have h6 := B4.out.trans (B6.out.mono B4.out.size)
      have := B4.out.size
      have := B6.out.size
      exact h6.trans ⟨ho7.os, ho7.tape, ho7.output, ho7.size, fun k hk => ho7.block k (by omega) fun hs => by
        rcases hs with hs | hs
        · omega
        · simp [Value.ownBlock] at hs⟩
    refine Lib.hid ⟨A7, n7, c7, b7, by rw [EZ.out], hb, fun h => absurd EZ.out.symm h, fun h => ?_, fun h _ _ => (hn7 h).2.2.2⟩
    exact hy7 h
  clear ho7 hl7 hm7 hn7 hy7
  go_wp2_with fail
  refine bodyPost_ret (v := .tuple #[.slice A7 n7 c7, .bool b7, .int .i64 0]) (by simp [results, Tryz.results6, go_sem]) rfl PP.out
end Go.Proofs.YtbmoehndnbbhcaaGreatDoor
namespace Go.Proofs.YtbmoehndnbbhcaaGreatDoor
set_option linter.unusedVariables false
set_option linter.unusedSimpArgs false
open Go Go.RowKit Go.MapKept
theorem quiet_op2n {o : Oper} {a : Act} {C : World → Prop} {W : World} {x y : OpP} (p q : Operand) (ho : o.op = .binOp .neq 37 p q 37) (hp : a.eval p = .agg #[.int .i64 x.1, .int .i64 x.2]) (hq : a.eval q = .agg #[.int .i64 y.1, .int .i64 y.2]) (hx : OpFit x) (hy : OpFit y) : o.quietAt Tryz.prog a C W (.bool (!decide (x = y))) := by
  unfold Oper.quietAt execOp
  simp only [ho, hp, hq, run_guard2, binOp, Sem.run_bind, Sem.run_pure, Result.andThen_ok, run_op2 W hx hy]
  exact ⟨rfl, rfl⟩
def SaRel (w : World) (a b : List OpP) (i : Value) (wr : World) : Prop := ∃ j : Nat, j ≤ a.length ∧ i = .int .i64 j ∧ a.take j = b.take j ∧ Below w.heap.size w wr
set_option maxRecDepth 100000 in
set_option maxHeartbeats 1000000 in
theorem rsame_any (w : World) (A B : Option Addr) (c d : Nat) (a b : List OpP) (ha : OrdAt w A a) (hb : OrdAt w B b) (fa : OrdFit a) (fb : OrdFit b) (hn : a.length ≤ 1048576) (hm : b.length ≤ 1048576) :
    Calls Tryz.prog 11 #[.slice A a.length c, .slice B b.length d] w fun e w' => e = .returned (.bool (decide (a = b))) ∧ Below w.heap.size w w' := by
  have HA := Lib.hid ha
  have HB := Lib.hid hb
  have XA := Lib.hid fa
  have XB := Lib.hid fb
  clear ha hb fa fb
  have B0 := Lib.hid (Below.refl w.heap.size w)
  by_cases hl : a.length = b.length
  case neg =>
    have R := Lib.hid (show false = decide (a = b) from (decide_eq_false fun e => hl (by rw [e])).symm)
    have hlb : ((a.length : Int) == (b.length : Int)) = false := by simp; omega
    have hli : ¬ (a.length : Int) = (b.length : Int) := by omega
    clear hl
    go_enter Tryz.func11, Tryz.ntmps11
    go_wp2_with fail
    go_ret
    exact ⟨ret_bool R.out, B0.out⟩
  have HL := Lib.hid hl
  have hli : (a.length : Int) = (b.length : Int) := by omega
  clear hl
  go_enter Tryz.func11, Tryz.ntmps11
  go_wp2_with fail
  go_loopw [5] (fun i wr => SaRel w a b i wr) (fun i _ => a.length - (intOf i).toNat)
  case atStart => exact ⟨0, by omega, rfl, by simp, B0.out⟩
  case round =>
    obtain ⟨j, hj, rfl, htk, hbw⟩ := hrel
    have TK := Lib.hid htk
    have BR := Lib.hid hbw
    clear htk hbw
    by_cases hlt : j < a.length
    · have hlen := HL.out
      obtain ⟨x, hx⟩ : ∃ x, a[j]? = some x := ⟨_, List.getElem?_eq_getElem hlt⟩
      obtain ⟨y, hy⟩ : ∃ y, b[j]? = some y := ⟨_, List.getElem?_eq_getElem (by omega)⟩
      obtain ⟨b1, o1, rfl, hz1, hc1⟩ := HA.out (by omega)
      obtain ⟨b2, o2, rfl, hz2, hc2⟩ := HB.out (by omega)
      have z0 := (BR.out.cell (p := ⟨b1, _, none⟩) hz1).trans (hc1 j x hx).1
      have z1 := (BR.out.cell (p := ⟨b1, _, none⟩) hz1).trans (hc1 j x hx).2
      have z2 := (BR.out.cell (p := ⟨b2, _, none⟩) hz2).trans (hc2 j y hy).1
      have z3 := (BR.out.cell (p := ⟨b2, _, none⟩) hz2).trans (hc2 j y hy).2
      have FX := Lib.hid (XA.out x (List.mem_of_getElem? hx))
      have FY := Lib.hid (XB.out y (List.mem_of_getElem? hy))
      have NX : Hid (x = y → ∀ nq, SaRel w a b (.int .i64 ((j : Int) + 1)) (wr.drewN nq)) := Lib.hid fun he nq =>
        ⟨j + 1, by omega, by go_num, by rw [List.take_add_one, List.take_add_one, hx, hy, TK.out, he], below_drewN BR.out nq⟩
      have NO : Hid (x ≠ y → false = decide (a = b)) := Lib.hid fun he => (decide_eq_false fun e => by
        subst e
        rw [hx] at hy
        exact he (Option.some.inj hy)).symm
      have BN := Lib.hid (fun nq => below_drewN BR.out nq)
      have hj0 : (0 : Int) ≤ j := by omega
      have hj1 : (j : Int) < a.length := by omega
      have hj2 : (j : Int) < b.length := by omega
      clear hc1 hc2 hx hy hlen
      obtain ⟨x0, x1⟩ := x
      obtain ⟨y0, y1⟩ := y
      simp only at z0 z1 z2 z3
      go_wp2_with fail
      refine wp_region_quiet_lit (by kernel_rfl) (by kernel_rfl) ?_
      repeat go_big_quiet_step (fail)
      refine' wpQuiet_take (by kernel_rfl) (fun W _ => quiet_op2n (x := (x0, x1)) (y := (y0, y1)) _ _ rfl rfl rfl FX.out FY.out) ?_
      simp only [Act.put, List.setIfInBounds_toArray, List.set_cons_zero, List.set_cons_succ]
      refine wpQuiet_nil ?_
      intro W2 hw'
      obtain ⟨nq, hw''⟩ := hw'
      subst hw''
      by_cases he : (x0, x1) = (y0, y1)
      · have NY := Lib.hid (NX.out he nq)
        rw [decide_eq_true he]
        clear he
        go_wp2_with fail
        go_roundw
        case rel => exact NY.out
        case measure => simp [intOf]; omega
      · have NY := Lib.hid (NO.out he)
        rw [decide_eq_false he]
        clear he
        go_wp2_with fail
        go_ret
        exact ⟨ret_bool NY.out, BN.out nq⟩
    · have R := Lib.hid (show true = decide (a = b) from (decide_eq_true (by
        have h1 := TK.out
        have h2 := HL.out
        rw [List.take_of_length_le (by omega), List.take_of_length_le (by omega)] at h1
        exact h1)).symm)
      go_wp2_with fail
      go_ret
      exact ⟨ret_bool R.out, BR.out⟩
end Go.Proofs.YtbmoehndnbbhcaaGreatDoor
