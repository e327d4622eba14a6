/- It is proved here: all functions of package history return the specified results, for arbitrary events, for histories of runs, and for such histories of which an event has been changed. Conditions: none. (The frame follows the guide's program proof-skeleton.mjs.) -/
import Derived.Test.YtpabdmcbahmjnaaGreatRows
import Derived.Test.YtpabdmcbahmjnaaGreatMHExa
import Derived.Test.YtpabdmcbahmjnaaGreatMHO
import Derived.WalkKit
import Derived.ProofKit
import Derived.OpenShut
import Derived.ShutString
import Derived.SizedLaws
namespace Go.Proofs.YtpabdmcbahmjnaaGreat.historyExact
open Go.ChangeMaps (open_string shut_string)
open Go.ChangeShapes Go.WideShapes Go.ChangeAt Go.RowKit
set_option linter.unusedSimpArgs false
set_option linter.unusedVariables false
theorem own : ownKnob Tryz.prog.godebug = none := by kernel_rfl
set_option maxRecDepth 100000 in
theorem lifted (os : Os) (started : os.Started) (H : Type) (enc : TypeId × Value → H) :
  ReturnsInHanded {} Tryz.checked os 5 .any (Rows.historyExactSpec.pre6 enc Tryz.prog Tryz.f5 Rows.historyExactRow.domain false) (Rows.historyExactSpec.post enc Tryz.prog Tryz.f5 false true false false) := by
 refine lift_plain started (by kernel_rfl) Tryz.func5 own
  (ChangeSpec.witness6 (enc := enc) (C := Tryz.checked) false ⟨#[], #[.slice none 0 0, .slice none 0 0, .slice none 0 0, .agg #[.int .i64 0, .int .i64 0], .agg #[.int .i64 0, .int .i64 0], .int .i64 0, .int .i64 0], []⟩ 8 (by kernel_rfl) (by kernel_rfl) (by kernel_rfl) (by kernel_rfl)) ?_
 intro W base args ds gs before hval0 hW hweights
 have hwt : ∀ (j : Nat) (t : TypeId) (d : DataW H), (Tryz.f5.params.toList ++ Rows.historyExactSpec.plain.varTypes Tryz.prog)[j]? = some t → (ds ++ gs)[j]? = some d → ∀ n ∈ d.weights Tryz.prog t, n ≤ reachBytes := fun j t d ht hd n hn => by
  have := List.all_eq_true.1 hweights n (DataW.weights_mem_each ht hd n hn)
  simpa using this
 have hval : ∀ (j : Nat) t v, Tryz.f5.params[j]? = some t → args[j]? = some v → Value.okWide Tryz.prog W .any base t v := hval0
 have hW' := hW
 obtain ⟨p, q, hA0, hV, rfl, hfz, hnd⟩ := hW
 have hA : DataW.TrodAll enc Tryz.prog W 0 (fun _ => true) true Tryz.f5.params.toList args.toList ds p := hA0
 obtain ⟨rfl, rfl⟩ := trodVars_none hV
 have hlt := hW'.lt
 simp only [List.append_nil] at hW' hlt
 have hAA := hA
 rw [Tryz.params5] at hA hval
 obtain ⟨v0, vs0, d0, ds0, p0, q0, hargs, rfl, rfl, h0, r0⟩ := trodAll_cons hA
 obtain ⟨v1, vs1, d1, ds1, p1, q1, rfl, rfl, rfl, h1, r1⟩ := trodAll_cons r0
 obtain ⟨v2, vs2, d2, ds2, p2, q2, rfl, rfl, rfl, h2, r2⟩ := trodAll_cons r1
 obtain ⟨v3, vs3, d3, ds3, p3, q3, rfl, rfl, rfl, h3, r3⟩ := trodAll_cons r2
 obtain ⟨v4, vs4, d4, ds4, p4, q4, rfl, rfl, rfl, h4, r4⟩ := trodAll_cons r3
 obtain ⟨v5, vs5, d5, ds5, p5, q5, rfl, rfl, rfl, h5, r5⟩ := trodAll_cons r4
 obtain ⟨v6, vs6, d6, ds6, p6, q6, rfl, rfl, rfl, h6, r6⟩ := trodAll_cons r5
 obtain ⟨rfl, rfl, rfl⟩ := trodAll_nil r6
 obtain rfl : args = #[v0, v1, v2, v3, v4, v5, v6] := by cases args; simp_all
 obtain ⟨A0, c0, l, rfl, l1, l2, l3⟩ := open_evsH (hval 0 35 v0 rfl rfl) h0
 obtain ⟨A1, c1, ts, rfl, t1, t2, t3⟩ := open_thrH (hval 1 28 v1 rfl rfl) h1 (hwt 1 28 _ (by kernel_rfl) rfl)
 obtain ⟨A2, n2, c2, rfl, w2⟩ := open_slice_ints Tryz.underlying22 Tryz.underlying3 (by kernel_rfl) (hval 2 22 v2 rfl rfl) h2
 obtain ⟨a, rfl, fa⟩ := open_pairH (hval 3 44 v3 rfl rfl) h3
 obtain ⟨b, rfl, fb⟩ := open_pairH (hval 4 44 v4 rfl rfl) h4
 obtain ⟨x, rfl, rfl, rfl, w5⟩ := open_int Tryz.underlying3 (hval 5 3 v5 rfl rfl) h5
 obtain ⟨y, rfl, rfl, rfl, w6⟩ := open_int Tryz.underlying3 (hval 6 3 v6 rfl rfl) h6
 refine (Go.Proofs.YtpabdmcbahmjnaaGreat.historyExact_walk A0 A1 A2 c0 c1 n2 c2 l ts a b x y W l1 l2 l3 t1 t2 t3 w2 fa fb (bounds_i64 w5) (bounds_i64 w6)).mono fun e W' ⟨he, hg⟩ => ?_
 subst he
 exact ⟨_, rfl, post_of_below (by kernel_rfl) (by kernel_rfl) (by kernel_rfl) (by decide +kernel) hW' hAA rfl (fun _ _ _ => (trodAll_cons_mk (shut_bool Tryz.underlying4 _) trodAll_mk0)) (fun _ => rfl) hg (ok_one (by kernel_rfl) rfl (okWide_bool_mk Tryz.underlying4 _))⟩
theorem over : Rows.historyExactRow.holds Tryz.pinned (OpenSpec.ofChange Rows.historyExactSpec) :=
 OpenClaim.holds_of_wide 5 Tryz.f5 rfl rfl rfl rfl rfl rfl rfl ⟨rfl, rfl, rfl, rfl, rfl⟩ rfl rfl rfl rfl rfl (by kernel_rfl) Tryz.func5 (by kernel_rfl)
  (of_decide_eq_true (by kernel_rfl)) (by unfold Func.isWrapper; first | (rw [if_pos (by decide +kernel)]; kernel_rfl) | (rw [if_neg (by decide +kernel)]; exact ⟨rfl, rfl⟩))
  (fun os started H enc _ => lifted os started H enc)
theorem proved : Rows.HistoryExactSaid :=
 over
end Go.Proofs.YtpabdmcbahmjnaaGreat.historyExact
