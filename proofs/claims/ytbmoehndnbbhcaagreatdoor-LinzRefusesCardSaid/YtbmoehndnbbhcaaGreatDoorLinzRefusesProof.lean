/- It is proved here: LinzRefuses returns true for every input; the input reads behind the call as it read before. Conditions: the package-level variables that the row lists start as the program's text lays them (the card ties them to that text). (The frame follows the guide's worked text PindigProofs.lean.) -/
import Derived.Test.YtbmoehndnbbhcaaGreatDoorRows
import Derived.Test.YtbmoehndnbbhcaaGreatDoorTie
import Derived.Test.YtbmoehndnbbhcaaGreatDoorCards
import Derived.Test.YtbmoehndnbbhcaaGreatDoorMZFo
import Derived.WalkKit
import Derived.ProofKit
import Derived.OpenShut
import Derived.ShutString
import Derived.Lay
import Derived.LaidMore
import Derived.SevenTiedAt
import Derived.SizedLaws
namespace Go.Proofs.YtbmoehndnbbhcaaGreatDoor.linzRefuses
open Go.ChangeShapes Go.WideShapes Go.ChangeAt Go.RowKit
open Go.ChangeMaps (open_string shut_string)
set_option linter.unusedVariables false
set_option linter.unusedSimpArgs false
theorem own : ownKnob Tryz.prog.godebug = none := by kernel_rfl
theorem tab_eq : (Rows.laid_internal_strconv_uint64pow10 : DataW Unit) = Lib.tabData .u64 Lib.pow10Tab := by kernel_rfl
set_option maxRecDepth 100000 in
theorem lifted (os : Os) (started : os.Started) (H : Type) (enc : TypeId × Value → H) :
    ReturnsInHanded {} Tryz.checked os 3 .any (fun w args => (Rows.linzRefusesSpec.pre enc Tryz.prog Tryz.f3 [] false w args ∧ laidMetH Tryz.prog Rows.linzRefusesRow.laid w) ∧ sizedMet enc Tryz.prog Tryz.f3 (OpenSpec.ofChange Rows.linzRefusesSpec) false w args) (Rows.linzRefusesSpec.post enc Tryz.prog Tryz.f3 false true false false) := by
  refine lift_law started (by kernel_rfl) Tryz.func3 own
    (ChangeSpec.witness_shaped (enc := enc) (C := Tryz.checked) (os := os) (X := fun w _ => laidMetH Tryz.prog Rows.linzRefusesRow.laid w) false (World.laidAll Tryz.prog os Rows.linzRefusesRow.laid) #[.int .u64 0, .slice none 0 0, .slice none 0 0, .slice none 0 0] 8 (World.laidAll_os _ _ _)
      (World.shaped_of_ZipB (by kernel_rfl) (by kernel_rfl)) (by kernel_rfl) (by kernel_rfl) (by kernel_rfl)
      (by rw [MakeChecks.laidMetH_plain _ _ _ (by kernel_rfl)]; exact laidMet_laidAll _ (by kernel_rfl) (by kernel_rfl))) ?_
  intro W base args ds gs before hval0 hW hweights hL0 hS0
  have hwt : ∀ (j : Nat) (t : TypeId) (d : DataW H), (Tryz.f3.params.toList ++ Rows.linzRefusesSpec.plain.varTypes Tryz.prog)[j]? = some t → (ds ++ gs)[j]? = some d → ∀ n ∈ d.weights Tryz.prog t, n ≤ reachBytes := fun j t d ht hd n hn => by
    have := List.all_eq_true.1 hweights n (DataW.weights_mem_each ht hd n hn)
    simpa using this
  have hL : laidMetH Tryz.prog Rows.linzRefusesRow.laid W := hL0
  have hS : W.ShapedOpen Tryz.prog := hS0
  have hval : ∀ (j : Nat) t v, Tryz.f3.params[j]? = some t → args[j]? = some v → Value.okWide Tryz.prog W .any base t v := hval0
  have hW' := hW
  obtain ⟨p, q, hA0, hV, rfl, hfz, hnd⟩ := hW
  have hA : DataW.TrodAll enc Tryz.prog W 0 (fun _ => true) true Tryz.f3.params.toList args.toList ds p := hA0
  obtain ⟨rfl, rfl⟩ := trodVars_none hV
  have hlt := hW'.lt
  simp only [List.append_nil] at hW' hlt
  have hAA := hA
  rw [MakeChecks.laidMetH_plain _ _ _ (by kernel_rfl)] at hL
  have hL2 : laidMet Tryz.prog (("math/bits.deBruijn32tab", Rows.laid_math_bits_deBruijn32tab) :: ("math/bits.deBruijn64tab", Rows.laid_math_bits_deBruijn64tab) :: ("internal/strconv.uint64pow10", Rows.laid_internal_strconv_uint64pow10) :: []) W := hL
  rw [tab_eq] at hL2
  have env : TabB W.heap.size W := env_of hL2 hS
  rw [Tryz.params3] at hA hval
  obtain ⟨v0, vs0, d0, ds0, p0, q0, hargs, rfl, rfl, h0, r0⟩ := trodAll_cons hA
  obtain ⟨v1, vs1, d1, ds1, p1, q1, rfl, rfl, rfl, h1, r1⟩ := trodAll_cons r0
  obtain ⟨v2, vs2, d2, ds2, p2, q2, rfl, rfl, rfl, h2, r2⟩ := trodAll_cons r1
  obtain ⟨v3, vs3, d3, ds3, p3, q3, rfl, rfl, rfl, h3, r3⟩ := trodAll_cons r2
  obtain ⟨rfl, rfl, rfl⟩ := trodAll_nil r3
  obtain rfl : args = #[v0, v1, v2, v3] := by cases args; simp_all
  obtain ⟨a0, rfl, rfl, rfl, w0⟩ := open_int Tryz.underlying22 (hval 0 22 v0 rfl rfl) h0
  obtain ⟨A1, c1, ts, rfl, ht1, ht2, ht3⟩ := open_thrF (hval 1 23 v1 rfl rfl) h1 (hwt 1 23 _ (by kernel_rfl) rfl)
  obtain ⟨A2, c2, l, rfl, hl1, hl2⟩ := open_evsF (hval 2 24 v2 rfl rfl) h2
  obtain ⟨A3, c3, ord, rfl, ho1, ho2, ho3, ho4⟩ := open_ordF (hval 3 25 v3 rfl rfl) h3 (hwt 3 25 _ (by kernel_rfl) rfl)
  refine (Go.Proofs.YtbmoehndnbbhcaaGreatDoor.law_any W a0 (bounds_u64 w0).1 (bounds_u64 w0).2 A1 A2 A3 c1 c2 c3 ts l ord ht1 hl1 ho1 ht2 hl2 ho2 ht3 ho3 ho4 env).mono fun e W' ⟨he, hg⟩ => ?_
  subst he
  exact ⟨_, rfl, post_of_below (by kernel_rfl) (by kernel_rfl) (by kernel_rfl) (by decide +kernel) hW' hAA rfl (fun _ _ _ => (trodAll_cons_mk (shut_bool Tryz.underlying4 _) trodAll_mk0)) (fun _ => rfl) hg (ok_one (by kernel_rfl) rfl (okWide_bool_mk Tryz.underlying4 _))⟩
theorem over : Rows.linzRefusesRow.holds Tryz.pinned (OpenSpec.ofChange Rows.linzRefusesSpec) :=
  OpenClaim.holds_of_wide 3 Tryz.f3 rfl rfl rfl rfl rfl rfl rfl ⟨rfl, rfl, rfl, rfl, rfl⟩ rfl rfl rfl rfl rfl (by kernel_rfl) Tryz.func3 (by kernel_rfl)
    (of_decide_eq_true (by kernel_rfl)) (by unfold Func.isWrapper; first | (rw [if_pos (by decide +kernel)]; kernel_rfl) | (rw [if_neg (by decide +kernel)]; exact ⟨rfl, rfl⟩))
    (fun os started H enc _ => lifted os started H enc)
/-- THE STATEMENT: the tied card -/
theorem proved : Rows.LinzRefusesCardSaid :=
  Claim7.holds_tied_plain_at .later [] [.data, .data, .data] true (true, "39b7676cec83d95f21506ad2d97f3404e1077bbb6ecf47285a0b9d0abfec8523") true over (fun _ h => by cases h) (by kernel_rfl) (fun _ h => by cases h) linzRefuses_row_tie rfl ⟨rfl, rfl⟩ (by kernel_rfl) rfl
    (fun f fn hf hfn => by
      obtain rfl : f = 3 := Option.some.inj ((show Tryz.prog.funcNamed "ctrie/ctrielaw28.LinzRefuses" = some 3 by kernel_rfl).symm.trans hf) |>.symm
      obtain rfl : fn = Tryz.f3 := (Option.some.inj (Tryz.func3.symm.trans hfn)).symm
      exact ⟨by kernel_rfl, fun j t ht => by
        rw [Tryz.params3] at ht
        have hm : t ∈ [22, 23, 24, 25] := by simpa using Array.mem_of_getElem? ht
        have hall : ([22, 23, 24, 25].all fun u => !Tryz.prog.wantsStandIn u) = true := by kernel_rfl
        exact (show Tryz.prog.wantsStandIn t = false by simpa using List.all_eq_true.1 hall t hm)⟩)
    (by kernel_rfl)
end Go.Proofs.YtbmoehndnbbhcaaGreatDoor.linzRefuses
