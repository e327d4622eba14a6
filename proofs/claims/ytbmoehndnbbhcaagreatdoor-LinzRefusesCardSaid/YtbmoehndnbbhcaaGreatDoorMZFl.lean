/- The law's example, plain. No program in sight. The walk of the law's awake. The walk of the law LinzRefuses. -/
import Derived.Test.YtbmoehndnbbhcaaGreatDoorZFx
namespace Go.Proofs.YtbmoehndnbbhcaaGreatDoor
set_option linter.unusedVariables false
set_option linter.unusedSimpArgs false
open Go
theorem ex_big : ¬ BigP (lens exTs) := by unfold BigP; decide
theorem ex_proper (late : Bool) : ProperP (lens exTs) (exL late) := by
  intro i e h
  have hn : ∀ n, (lens exTs)[(0 : Int).toNat]? = some n → 0 < n := by intro n hn; simp [lens, exTs] at hn; omega
  have hn1 : ∀ n, (lens exTs)[(1 : Int).toNat]? = some n → 0 < n := by intro n hn; simp [lens, exTs] at hn; omega
  cases late with
  | true =>
    match i, h with
    | 0, h => simp [exL] at h; subst h; exact ⟨by decide, by decide, by decide, hn, by decide, fun _ => rfl⟩
    | 1, h => simp [exL] at h; subst h; exact ⟨by decide, by decide, by decide, hn, by decide, fun h => by simp [eOut] at h⟩
    | 2, h => simp [exL] at h; subst h; exact ⟨by decide, by decide, by decide, hn1, by decide, fun _ => rfl⟩
    | 3, h => simp [exL] at h; subst h; exact ⟨by decide, by decide, by decide, hn1, by decide, fun h => by simp [eEnd] at h⟩
    | i + 4, h => simp [exL] at h
  | false =>
    match i, h with
    | 0, h => simp [exL] at h; subst h; exact ⟨by decide, by decide, by decide, hn, by decide, fun _ => rfl⟩
    | 1, h => simp [exL] at h; subst h; exact ⟨by decide, by decide, by decide, hn1, by decide, fun _ => rfl⟩
    | 2, h => simp [exL] at h; subst h; exact ⟨by decide, by decide, by decide, hn, by decide, fun h => by simp [eOut] at h⟩
    | 3, h => simp [exL] at h; subst h; exact ⟨by decide, by decide, by decide, hn1, by decide, fun h => by simp [eEnd] at h⟩
    | i + 4, h => simp [exL] at h
theorem ex_check (late : Bool) : checkP (lens exTs) (exL late) = 0 := check_ok ex_big (ex_proper late)
theorem ex_inv (late : Bool) : invokedP (exL late) = [(0, 0), (1, 0)] := by cases late <;> decide
theorem ex_err (late : Bool) : errD exTs (exL late) = 0 := by
  unfold errD
  rw [if_neg (by simp [ex_check]), if_neg (by rw [ex_inv]; decide)]
theorem ex_exc : excusedP exTs (exL false) = true := by decide
theorem ex_cands (late : Bool) : (srOf exTs (exL late)).cands = [(0, 0), (1, 0)] := by cases late <;> decide
theorem ex_req (late : Bool) : (srOf exTs (exL late)).req = 3 := by cases late <;> decide
theorem ex_early (late : Bool) : (srOf exTs (exL late)).early = [0, if late then 1 else 0] := by cases late <;> decide
theorem ex_c2 {late : Bool} {i : Nat} {a : OpP} (h : (srOf exTs (exL late)).cands[i]? = some a) : (i = 0 ∧ a = (0, 0)) ∨ (i = 1 ∧ a = (1, 0)) := by
  rw [ex_cands] at h
  match i, h with
  | 0, h => exact Or.inl ⟨rfl, by simpa using h.symm⟩
  | 1, h => exact Or.inr ⟨rfl, by simpa using h.symm⟩
  | i + 2, h => simp at h
instance (s : SrD) (S : Nat) : Decidable (fullP s S) := by unfold fullP; infer_instance
instance (s : SrD) (S i : Nat) : Decidable (closedP s S i) := by unfold closedP; infer_instance
instance (s : SrD) (l : List EvD) (i : Nat) (a : OpP) (r : ResD) : Decidable (fitsP s l i a r) := by unfold fitsP; infer_instance
def sT : SrD := srOf exTs (exL true)
def sF : SrD := srOf exTs (exL false)
def exA0 : AFam := famO 63
def exA1 : AFam := (applyA exA0 0 0 (opAt exTs (0, 0))).1
def exA2 : AFam := (applyA exA0 1 0 (opAt exTs (1, 0))).1
theorem t_full0 : ¬ fullP sT 0 := by decide
theorem t_full1 : ¬ fullP sT 1 := by decide
theorem t_c01 : closedP sT 0 1 := by decide
theorem t_c10 : closedP sT 1 0 := by decide
theorem t_mis : ¬ fitsP sT (exL true) 1 (1, 0) (applyA exA1 1 0 (opAt exTs (1, 0))).2 := by decide
theorem f_full0 : ¬ fullP sF 0 := by decide
theorem f_full1 : ¬ fullP sF 1 := by decide
theorem f_full2 : ¬ fullP sF 2 := by decide
theorem f_full3 : fullP sF 3 := by decide
theorem f_c10 : closedP sF 1 0 := by decide
theorem f_c21 : closedP sF 2 1 := by decide
theorem f_c30 : closedP sF 3 0 := by decide
theorem f_c31 : closedP sF 3 1 := by decide
theorem f_o01 : ¬ closedP sF 0 1 := by decide
theorem f_o20 : ¬ closedP sF 2 0 := by decide
theorem f_mis : ¬ fitsP sF (exL false) 1 (1, 0) (applyA exA1 1 0 (opAt exTs (1, 0))).2 := by decide
theorem f_fit1 : fitsP sF (exL false) 1 (1, 0) (applyA exA0 1 0 (opAt exTs (1, 0))).2 := by decide
theorem f_fit0 : fitsP sF (exL false) 0 (0, 0) (applyA exA2 0 0 (opAt exTs (0, 0))).2 := by decide
theorem ex_noSol {L o : List OpP} (hs : SolP sT exTs (exL true) 0 exA0 L o) : False := by
  cases hs with
  | done h => exact t_full0 h
  | step hf ha hc hr hw =>
    rcases ex_c2 ha with ⟨rfl, rfl⟩ | ⟨rfl, rfl⟩
    · cases hw with
      | done h => exact t_full1 h
      | step hf ha hc hr hw =>
        rcases ex_c2 ha with ⟨rfl, rfl⟩ | ⟨rfl, rfl⟩
        · exact hc t_c10
        · exact t_mis hr
    · exact hc t_c01
theorem ex_oneSol {o : List OpP} (hs : SolP sF exTs (exL false) 0 exA0 [] o) : o = [(1, 0), (0, 0)] := by
  cases hs with
  | done h => exact absurd h f_full0
  | step hf ha hc hr hw =>
    rcases ex_c2 ha with ⟨rfl, rfl⟩ | ⟨rfl, rfl⟩
    · cases hw with
      | done h => exact absurd h f_full1
      | step hf ha hc hr hw =>
        rcases ex_c2 ha with ⟨rfl, rfl⟩ | ⟨rfl, rfl⟩
        · exact absurd f_c10 hc
        · exact absurd hr f_mis
    · cases hw with
      | done h => exact absurd h f_full2
      | step hf ha hc hr hw =>
        rcases ex_c2 ha with ⟨rfl, rfl⟩ | ⟨rfl, rfl⟩
        · cases hw with
          | done h => rfl
          | step hf ha hc hr hw => exact absurd f_full3 hf
        · exact absurd f_c21 hc
theorem ex_win : WinP sF exTs (exL false) 0 exA0 :=
  .step (i := 1) (a := (1, 0)) rfl f_o01 f_fit1 (.step (i := 0) (a := (0, 0)) rfl f_o20 f_fit0 (.done f_full3))
/-- the families that the search meets -/
def exR (S : Nat) (A : AFam) : Prop := (S = 0 → A = exA0) ∧ (S = 1 → A = exA1) ∧ (S = 2 → A = exA2) ∧ S ≤ 3
theorem ex_hypF : ExHyp exTs (exL false) 63 True exR where
  zero := fun _ => ⟨fun _ => rfl, fun h => by simp at h, fun h => by simp at h, by omega⟩
  same := fun _ S A B ha hb hw => by
    obtain ⟨a0, a1, a2, a3⟩ := ha
    obtain ⟨b0, b1, b2, b3⟩ := hb
    rcases (by omega : S = 0 ∨ S = 1 ∨ S = 2 ∨ S = 3) with rfl | rfl | rfl | rfl
    · rw [a0 rfl]; rw [b0 rfl] at hw; exact hw
    · rw [a1 rfl]; rw [b1 rfl] at hw; exact hw
    · rw [a2 rfl]; rw [b2 rfl] at hw; exact hw
    · exact .done f_full3
  next := fun _ S i A a ha hc hn hf => by
    obtain ⟨a0, a1, a2, a3⟩ := ha
    rcases ex_c2 hc with ⟨rfl, rfl⟩ | ⟨rfl, rfl⟩
    · rcases (by omega : S = 0 ∨ S = 1 ∨ S = 2 ∨ S = 3) with rfl | rfl | rfl | rfl
      · rw [a0 rfl]
        exact ⟨fun h => by simp at h, fun _ => rfl, fun h => by simp at h, by decide⟩
      · exact absurd f_c10 hn
      · exact ⟨fun h => by simp at h, fun h => by simp at h, fun h => by simp at h, by decide⟩
      · exact absurd f_c30 hn
    · rcases (by omega : S = 0 ∨ S = 1 ∨ S = 2 ∨ S = 3) with rfl | rfl | rfl | rfl
      · rw [a0 rfl]
        exact ⟨fun h => by simp at h, fun h => by simp at h, fun _ => rfl, by decide⟩
      · exact ⟨fun h => by simp at h, fun h => by simp at h, fun h => by simp at h, by decide⟩
      · exact absurd f_c21 hn
      · exact absurd f_c31 hn
theorem ex_hypT {ts : List (List OpD)} {l : List EvD} {m : Int} : ExHyp ts l m False (fun _ _ => True) := ⟨fun h => h.elim, fun h => h.elim, fun h => h.elim⟩
theorem ex_ordered : OrderedP (exL false) [(0, 0), (1, 0)] := by
  intro i k x y hx hy hk
  match i, hx with
  | 0, hx => omega
  | 1, hx =>
    match k, hy with
    | 0, hy =>
      simp at hx hy
      subst hx hy
      decide
    | k + 1, hy => omega
  | i + 2, hx => simp at hx
theorem ex_acc : acceptsP 63 exTs (exL false) [(0, 0), (1, 0)] = 8 := by
  unfold acceptsP
  rw [if_neg (by simp [ex_check]), if_neg (by rw [ex_exc]; decide), if_neg (by decide), if_neg (by simp [ex_ordered]), if_pos (by decide)]
theorem ex_thr : ThrFit exTs := ⟨by decide, fun t ht => by simp [exTs] at ht; rcases ht with rfl | rfl <;> simp⟩
theorem ex_val : ValT exTs := by
  refine ⟨fun t ht o ho => ?_, fun t ht o ho => ?_⟩ <;> (simp [exTs] at ht; rcases ht with rfl | rfl <;> (simp at ho; subst ho; first | (unfold maxLen; decide) | (unfold U64; decide)))
theorem ex_evs (late : Bool) : EvsFit (exL late) := by
  have z : ResF.zero.Fit := zero_fit
  have z1 : (⟨0, false, 0, ⟨#[]⟩, 1, 0, 0, false⟩ : ResF).Fit := ⟨by unfold I64; decide, by decide, by unfold maxLen; decide, by unfold I64; decide, by unfold I64; decide, by unfold I64; decide⟩
  have h : ∀ e ∈ exL late, e = eIn ∨ e = eOut ∨ e = eBeg ∨ e = eEnd := by cases late <;> (intro e he; simp [exL] at he; rcases he with rfl | rfl | rfl | rfl <;> simp)
  refine ⟨by cases late <;> decide, fun e he => ?_, fun e he => ?_, fun e he => ?_⟩
  · rcases h e he with rfl | rfl | rfl | rfl <;> (unfold I64; decide)
  · rcases h e he with rfl | rfl | rfl | rfl <;> (unfold I64; decide)
  · rcases h e he with rfl | rfl | rfl | rfl
    · exact z
    · exact z1
    · exact z
    · exact z
end Go.Proofs.YtbmoehndnbbhcaaGreatDoor
namespace Go.Proofs.YtbmoehndnbbhcaaGreatDoor
set_option linter.unusedVariables false
set_option linter.unusedSimpArgs false
open Go Go.RowKit Go.MapKept
theorem ord_two {W : World} {b : Nat} {T : TypeId} {x y : OpP} (h : W.heap[b]? = some (.cells #[.int .i64 x.1, .int .i64 x.2, .int .i64 y.1, .int .i64 y.2] T (0, 0))) : OrdAt W (some ⟨b, 0, none⟩) [x, y] := fun _ =>
  ⟨b, 0, rfl, (Array.getElem?_eq_some_iff.1 h).1, fun k a ha => by
    match k, ha with
    | 0, ha => simp only [List.getElem?_cons_zero, Option.some.injEq] at ha; subst ha; exact ⟨blk_cell h 0, blk_cell h 1⟩
    | 1, ha => simp only [List.getElem?_cons_succ, List.getElem?_cons_zero, Option.some.injEq] at ha; subst ha; exact ⟨blk_cell h 2, blk_cell h 3⟩
    | k + 2, ha => simp at ha⟩
set_option maxRecDepth 100000 in
set_option maxHeartbeats 2000000 in
theorem awake_any (w : World) (tb : TabB w.heap.size w) : Calls Tryz.prog 4 #[] w fun e w' => e = .returned (.bool true) ∧ Below w.heap.size w w' := by
  have TB := Lib.hid tb
  clear tb
  have TW := Lib.hid (fun W (hW : Below w.heap.size w W) => (show TabB W.heap.size W from fun W' h' => TB.out W' (hW.trans (h'.mono hW.size))))
  go_enter Tryz.func4, Tryz.ntmps4
  go_wp2_with (first | (go_at_call 10; refine stopAt ?_))
  unfold StopAt
  refine (example_any w true).mono ?_
  rintro e w1 ⟨A1, B1, c1, d1, rfl, ht1, he1, hb1⟩
  have T1 := Lib.hid ht1
  have V1 := Lib.hid he1
  have L1 := Lib.hid hb1
  clear ht1 he1 hb1
  go_wp2_with (first | (go_at_call 6; refine stopAt ?_))
  unfold StopAt
  refine (decide_any w1 63 (by omega) (by omega) A1 B1 c1 d1 exTs (exL true) T1.out V1.out ex_thr (ex_evs true) ex_val (TW.out w1 L1.out) False _ ex_hypT).mono ?_
  rintro e w2 ⟨A2, n2, c2, b2, rfl, hb2, h1, h2, h3⟩
  have eb : b2 = false := by
    cases b2 with
    | false => rfl
    | true => obtain ⟨o, _, hs, _⟩ := h2 rfl; exact (ex_noSol hs).elim
  subst eb
  rw [ex_err true]
  have L2 := Lib.hid (L1.out.trans (hb2.mono L1.out.size))
  clear hb2 h1 h2 h3
  go_wp2_with (first | (go_at_call 10; refine stopAt ?_))
  unfold StopAt
  refine (example_any w2 false).mono ?_
  rintro e w3 ⟨A3, B3, c3, d3, rfl, ht3, he3, hb3⟩
  have T3 := Lib.hid ht3
  have V3 := Lib.hid he3
  have L3 := Lib.hid (L2.out.trans (hb3.mono L2.out.size))
  clear ht3 he3 hb3
  go_wp2_with (first | (go_at_call 6; refine stopAt ?_))
  unfold StopAt
  refine (decide_any w3 63 (by omega) (by omega) A3 B3 c3 d3 exTs (exL false) T3.out V3.out ex_thr (ex_evs false) ex_val (TW.out w3 L3.out) True _ ex_hypF).mono ?_
  rintro e w4 ⟨A4, n4, c4, b4, rfl, hb4, h1, h2, h3⟩
  have eb : b4 = true := by
    cases b4 with
    | true => rfl
    | false => exact absurd ex_win (h3 rfl (ex_err false) ex_exc trivial)
  subst eb
  obtain ⟨o, rfl, hs, ho, _⟩ := h2 rfl
  obtain rfl := ex_oneSol hs
  rw [ex_err false]
  have L4 := Lib.hid (L3.out.trans (hb4.mono L3.out.size))
  have T4 := Lib.hid (T3.out.below hb4)
  have V4 := Lib.hid (V3.out.below hb4)
  have O4 := Lib.hid ho
  clear hb4 h1 h2 h3 ho hs T3 V3
  go_wp2_with (first | (go_at_call 11; refine stopAt ?_))
  unfold StopAt
  have FO : OrdFit [(1, 0), (0, 0)] := by intro a ha; simp at ha; rcases ha with rfl | rfl <;> (unfold OpFit; decide)
  have FO2 : OrdFit [(0, 0), (1, 0)] := by intro a ha; simp at ha; rcases ha with rfl | rfl <;> (unfold OpFit; decide)
  have hb5 := balZ (Below.refl w4.heap.size w4) (.cells #[.int .i64 1, .int .i64 0, .int .i64 0, .int .i64 0] 37)
  refine (rsame_any _ A4 (some ⟨w4.heap.size, 0, none⟩) c4 2 [(1, 0), (0, 0)] [(1, 0), (0, 0)] (O4.out.below hb5) (ord_two (x := (1, 0)) (y := (0, 0)) (heap_alloc w4 _).1) FO FO (by decide) (by decide)).mono ?_
  rintro e w6 ⟨rfl, hb6⟩
  rw [decide_eq_true rfl]
  have hb6' := hb5.trans (hb6.mono hb5.size)
  have L6 := Lib.hid (L4.out.trans (hb6'.mono L4.out.size))
  have T6 := Lib.hid (T4.out.below hb6')
  have V6 := Lib.hid (V4.out.below hb6')
  clear hb6 hb6' hb5 FO
  go_wp2_with (first | (go_at_call 7; refine stopAt ?_))
  unfold StopAt
  have hb7 := balZ (Below.refl w6.heap.size w6) (.cells #[.int .i64 0, .int .i64 0, .int .i64 1, .int .i64 0] 37)
  refine (laccepts_any _ 63 (by omega) (by omega) A3 B3 (some ⟨w6.heap.size, 0, none⟩) c3 d3 2 exTs (exL false) [(0, 0), (1, 0)] (T6.out.below hb7) (V6.out.below hb7) (ord_two (x := (0, 0)) (y := (1, 0)) (heap_alloc w6 _).1) ex_thr (ex_evs false) FO2 ex_val (by decide) (by decide) (by decide)).mono ?_
  rintro e w8 ⟨rfl, hb8⟩
  rw [ex_acc]
  have hb8' := hb7.trans (hb8.mono hb7.size)
  have L8 := Lib.hid (L6.out.trans (hb8'.mono L6.out.size))
  clear hb8 hb8' hb7 FO2
  go_wp2_with fail
  go_ret
  exact ⟨rfl, L8.out⟩
end Go.Proofs.YtbmoehndnbbhcaaGreatDoor
namespace Go.Proofs.YtbmoehndnbbhcaaGreatDoor
set_option linter.unusedVariables false
set_option linter.unusedSimpArgs false
open Go Go.RowKit Go.MapKept
set_option maxRecDepth 100000 in
set_option maxHeartbeats 2000000 in
theorem law_any (w : World) (mask : Int) (m0 : 0 ≤ mask) (m1 : mask ≤ 18446744073709551615) (A B O : Option Addr) (c d co : Nat) (ts : List (List OpD)) (l : List EvD) (order : List OpP) (hA : ThrAt w A ts) (hB : EvsAt w B l) (hO : OrdAt w O order) (ft : ThrFit ts)
    (fe : l.length ≤ 30 → EvsFit l) (hf : OrdFit order) (vt : ValT ts) (hcap : order.length ≤ co) (hco : co ≤ 4611686018427387904) (tb : TabB w.heap.size w) :
    Calls Tryz.prog 3 #[.int .u64 mask, .slice A ts.length c, .slice B l.length d, .slice O order.length co] w fun e w' => e = .returned (.bool true) ∧ Below w.heap.size w w' := by
  have HA := Lib.hid hA
  have HB := Lib.hid hB
  have HO := Lib.hid hO
  have FT := Lib.hid ft
  have FE0 := Lib.hid fe
  have HF := Lib.hid hf
  have VT := Lib.hid vt
  have TB := Lib.hid tb
  clear hA hB hO ft fe hf vt tb
  have TW := Lib.hid (fun W (hW : Below w.heap.size w W) => (show TabB W.heap.size W from fun W' h' => TB.out W' (hW.trans (h'.mono hW.size))))
  have AW := Lib.hid (fun W (hW : Below w.heap.size w W) => (awake_any W (TW.out W hW)).mono fun e w' (p : e = .returned (.bool true) ∧ Below W.heap.size W w') => (⟨p.1, hW.trans (p.2.mono hW.size)⟩ : e = .returned (.bool true) ∧ Below w.heap.size w w'))
  by_cases hbig : 12 < ts.length ∨ 30 < l.length ∨ 30 < order.length
  · have A0 := Lib.hid (AW.out w (Below.refl _ _))
    clear AW TW
    rcases hbig with h1 | h1 | h1
    · have h1' : (12 : Int) < ts.length := by omega
      go_enter Tryz.func3, Tryz.ntmps3
      go_wp2_with (first | (go_at_call 4; refine stopAt ?_))
      unfold StopAt
      refine A0.out.mono ?_
      rintro e w1 ⟨rfl, hb1⟩
      have B1 := Lib.hid hb1
      clear hb1
      go_wp2_with fail
      go_ret
      exact ⟨rfl, B1.out⟩
    · by_cases h2 : 12 < ts.length
      · have h2' : (12 : Int) < ts.length := by omega
        go_enter Tryz.func3, Tryz.ntmps3
        go_wp2_with (first | (go_at_call 4; refine stopAt ?_))
        unfold StopAt
        refine A0.out.mono ?_
        rintro e w1 ⟨rfl, hb1⟩
        have B1 := Lib.hid hb1
        clear hb1
        go_wp2_with fail
        go_ret
        exact ⟨rfl, B1.out⟩
      · have h2' : ¬ (12 : Int) < ts.length := by omega
        have h1' : (30 : Int) < l.length := by omega
        go_enter Tryz.func3, Tryz.ntmps3
        go_wp2_with (first | (go_at_call 4; refine stopAt ?_))
        unfold StopAt
        refine A0.out.mono ?_
        rintro e w1 ⟨rfl, hb1⟩
        have B1 := Lib.hid hb1
        clear hb1
        go_wp2_with fail
        go_ret
        exact ⟨rfl, B1.out⟩
    · have h1' : (30 : Int) < order.length := by omega
      by_cases h2 : 12 < ts.length
      · have h2' : (12 : Int) < ts.length := by omega
        go_enter Tryz.func3, Tryz.ntmps3
        go_wp2_with (first | (go_at_call 4; refine stopAt ?_))
        unfold StopAt
        refine A0.out.mono ?_
        rintro e w1 ⟨rfl, hb1⟩
        have B1 := Lib.hid hb1
        clear hb1
        go_wp2_with fail
        go_ret
        exact ⟨rfl, B1.out⟩
      · have h2' : ¬ (12 : Int) < ts.length := by omega
        by_cases h3 : 30 < l.length
        · have h3' : (30 : Int) < l.length := by omega
          go_enter Tryz.func3, Tryz.ntmps3
          go_wp2_with (first | (go_at_call 4; refine stopAt ?_))
          unfold StopAt
          refine A0.out.mono ?_
          rintro e w1 ⟨rfl, hb1⟩
          have B1 := Lib.hid hb1
          clear hb1
          go_wp2_with fail
          go_ret
          exact ⟨rfl, B1.out⟩
        · have h3' : ¬ (30 : Int) < l.length := by omega
          go_enter Tryz.func3, Tryz.ntmps3
          go_wp2_with (first | (go_at_call 4; refine stopAt ?_))
          unfold StopAt
          refine A0.out.mono ?_
          rintro e w1 ⟨rfl, hb1⟩
          have B1 := Lib.hid hb1
          clear hb1
          go_wp2_with fail
          go_ret
          exact ⟨rfl, B1.out⟩
  have g1 : ¬ (12 : Int) < ts.length := by omega
  have g2 : ¬ (30 : Int) < l.length := by omega
  have g3 : ¬ (30 : Int) < order.length := by omega
  have hn : order.length ≤ 30 := by omega
  have FE := Lib.hid (FE0.out (by omega))
  clear hbig FE0
  go_enter Tryz.func3, Tryz.ntmps3
  go_wp2_with (first | (go_at_call 5; refine stopAt ?_))
  unfold StopAt
  refine (rcheck_any w A B c d ts l HA.out HB.out FT.out FE.out).mono ?_
  rintro e w1 ⟨rfl, hb1⟩
  have B1 := Lib.hid hb1
  clear hb1 g1 g2 g3
  go_wp2_with (first | (go_at_call 6; refine stopAt ?_))
  unfold StopAt
  refine (decide_any w1 mask m0 m1 A B c d ts l (HA.out.below B1.out) (HB.out.below B1.out) FT.out FE.out VT.out (TW.out w1 B1.out) False _ ex_hypT).mono ?_
  rintro e w2 ⟨A2, n2, c2, b2, rfl, hb2, hbf, _, _⟩
  have B2 := Lib.hid (B1.out.trans (hb2.mono B1.out.size))
  have BF := Lib.hid hbf
  clear hb2 hbf
  go_wp2_with (first | (go_at_call 7; refine stopAt ?_))
  unfold StopAt
  refine (laccepts_any w2 mask m0 m1 A B O c d co ts l order (HA.out.below B2.out) (HB.out.below B2.out) (HO.out.below B2.out) FT.out FE.out HF.out VT.out (by omega) hcap hco).mono ?_
  rintro e w3 ⟨rfl, hb3⟩
  have B3 := Lib.hid (B2.out.trans (hb3.mono B2.out.size))
  clear hb3
  by_cases hc : checkP (lens ts) l = 0
  case neg =>
    have eq1 : errD ts l = checkP (lens ts) l := by unfold errD; rw [if_pos hc]
    have eq2 : acceptsP mask ts l order = checkP (lens ts) l := acc_check hc
    have eb : b2 = false := BF.out (by rw [eq1]; exact hc)
    subst eb
    rw [eq1, eq2]
    clear eq1 eq2 BF
    have hcb : (checkP (lens ts) l != 0) = true := by simpa using hc
    generalize checkP (lens ts) l = q at *
    have A3 := Lib.hid (AW.out w3 B3.out)
    go_wp2_with (first | (go_at_call 4; refine stopAt ?_))
    unfold StopAt
    refine A3.out.mono ?_
    rintro e w4 ⟨rfl, hb4⟩
    have B4 := Lib.hid hb4
    clear hb4
    go_wp2_with fail
    go_ret
    exact ⟨rfl, B4.out⟩
  have HC := Lib.hid hc
  rw [HC.out]
  clear hc
  have IV := Lib.hid (rinvoked_any w3 B d l (by have := FE.out.len; exact this) (HB.out.below B3.out))
  go_wp2_with (first | (go_at_call 8; refine stopAt ?_))
  unfold StopAt
  refine IV.out.mono ?_
  rintro e w4 ⟨A4, c4, rfl, ho4, hb4⟩
  have B4 := Lib.hid (B3.out.trans (hb4.mono B3.out.size))
  clear ho4 hb4 IV
  have A4' := Lib.hid (AW.out w4 B4.out)
  by_cases h16 : 16 < (invokedP l).length
  · have hgt : (16 : Int) < (invokedP l).length := by omega
    have eq1 : errD ts l = 3 := by unfold errD; rw [if_neg (by simp [HC.out]), if_pos h16]
    have eb : b2 = false := BF.out (by rw [eq1]; decide)
    subst eb
    rw [eq1]
    clear eq1 BF h16
    go_wp2_with (first | (go_at_call 4; refine stopAt ?_))
    unfold StopAt
    refine A4'.out.mono ?_
    rintro e w5 ⟨rfl, hb5⟩
    have B5 := Lib.hid hb5
    clear hb5
    go_wp2_with fail
    go_ret
    exact ⟨rfl, B5.out⟩
  · have hle : ¬ (16 : Int) < (invokedP l).length := by omega
    have eq1 : errD ts l = 0 := by unfold errD; rw [if_neg (by simp [HC.out]), if_neg h16]
    rw [eq1]
    clear eq1 BF h16
    go_wp2_with (first | (go_at_call 4; refine stopAt ?_))
    unfold StopAt
    refine A4'.out.mono ?_
    rintro e w5 ⟨rfl, hb5⟩
    have B5 := Lib.hid hb5
    clear hb5 hle
    go_wp2_with (first | (go_at_call 9; refine stopAt ?_))
    unfold StopAt
    refine (raccepts_any w5 mask m0 m1 A B O c d co ts l order (HA.out.below B5.out) (HB.out.below B5.out) (HO.out.below B5.out) FT.out FE.out HF.out VT.out (by omega)).mono ?_
    rintro e w6 ⟨rfl, hb6⟩
    have B6 := Lib.hid (B5.out.trans (hb6.mono B5.out.size))
    clear hb6
    generalize acceptsP mask ts l order = q at *
    go_wp2_with fail
    go_ret
    exact ⟨rfl, B6.out⟩
end Go.Proofs.YtbmoehndnbbhcaaGreatDoor
