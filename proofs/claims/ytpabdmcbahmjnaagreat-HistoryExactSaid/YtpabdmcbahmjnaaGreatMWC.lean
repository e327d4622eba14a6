/- Part of a proof: W6 W7a W7 W8 W9. -/
import Derived.Test.YtpabdmcbahmjnaaGreatMWA
import Derived.Test.YtpabdmcbahmjnaaGreatMU20
namespace Go.Proofs.YtpabdmcbahmjnaaGreat
namespace Tv
open Go Go.RowKit Go.MapKept
set_option linter.unusedSimpArgs false
set_option linter.unusedVariables false
section
variable {P : Program} {ops : Array Oper} {Q : Exit → Act → World → Prop}
structure Fax (P : Program) (ops : Array Oper) (Q : Exit → Act → World → Prop) (N : Nat) (V : Nat → World → Value → Prop) (E : World → World → Prop) (a0 : Act) (w0 : World) : Prop where
 tr : ∀ w w' w'', E w w' → E w' w'' → E w w''
 mono : ∀ k w w' v, E w w' → V k w v → V k w' v
 dst : ∀ (j k : Nat) (o o' : Oper) (d : Nat), ops[j]? = some o → ops[k]? = some o' → o.dst = some d → o'.dst = some d → j = k
 lt : ∀ (k : Nat) (o : Oper) (d : Nat), ops[k]? = some o → o.dst = some d → d < N
 ord : ∀ (k : Nat) (o : Oper), ops[k]? = some o → ∀ e ∈ o.after, Region.binds .any e = true → e.on < k
 step : ∀ (k : Nat) (o : Oper), ops[k]? = some o → ∀ (a : Act) (w : World), a.tmps.size = N → a.defers = [] → E w0 w → (∀ (d : Nat), (∀ (j : Nat) (o' : Oper), ops[j]? = some o' → o'.dst ≠ some d) → a.tmps.getD d Go.undef = a0.tmps.getD d Go.undef) →
  (∀ e ∈ o.after, Region.binds .any e = true → ∀ (oe : Oper) (d : Nat), ops[e.on]? = some oe → oe.dst = some d → V e.on w (a.tmps.getD d Go.undef)) → wpOp P ops Q k (fun a' w' => ∃ v, a' = a.put o.dst v ∧ E w w' ∧ V k w' v) a w
theorem put_getD {a : Act} {d i : Nat} {v : Value} (h : i ≠ d) : (a.put (some d) v).tmps.getD i Go.undef = a.tmps.getD i Go.undef := by
 simp only [Act.put, Array.getD_eq_getD_getElem?, Array.getElem?_setIfInBounds]
 rw [if_neg (fun e => h e.symm)]
theorem put_getD_same {a : Act} {d : Nat} {v : Value} (h : d < a.tmps.size) : (a.put (some d) v).tmps.getD d Go.undef = v := by
 simp [Act.put, h]
theorem wp_region_fax {id N : Nat} {a0 : Act} {w0 : World} {V : Nat → World → Value → Prop} {E : World → World → Prop} (hm : P.follows .mixedOrders = true) (h : Fax P ops Q N V E a0 w0.drew) (hr : E w0.drew w0.drew) (hN : a0.tmps.size = N) (hd : a0.defers = [])
  (he : ∀ (a : Act) (w : World), a.tmps.size = N → a.defers = [] → E w0.drew w → (∀ (d : Nat), (∀ (j : Nat) (o' : Oper), ops[j]? = some o' → o'.dst ≠ some d) → a.tmps.getD d Go.undef = a0.tmps.getD d Go.undef) → (∀ (k : Nat) (o : Oper) (d : Nat), ops[k]? = some o → o.dst = some d → V k w (a.tmps.getD d Go.undef)) → Q .normal a w) :
  (Code.region id ops true).wp P Q a0 w0 := by
 refine wp_region_inv hm (fun l a w => l.size = ops.size ∧ a.tmps.size = N ∧ a.defers = [] ∧ E w0.drew w ∧ (∀ (d : Nat), (∀ (j : Nat) (o' : Oper), ops[j]? = some o' → o'.dst ≠ some d) → a.tmps.getD d Go.undef = a0.tmps.getD d Go.undef) ∧
  (∀ (k : Nat) (o : Oper) (d : Nat), l.getD k false = true → ops[k]? = some o → o.dst = some d → V k w (a.tmps.getD d Go.undef))) ?_ ?_ ?_
 ·refine ⟨by simp, hN, hd, hr, fun _ _ => rfl, fun k o d hk => ?_⟩
  simp only [Array.getD_eq_getD_getElem?, Array.getElem?_replicate] at hk
  split at hk <;> simp at hk
 ·rintro l a w ⟨h0, h1, h2, h3, h4, h5⟩ i hi
  obtain ⟨hu, o, ho, ha⟩ := mem_ready.1 hi
  refine wpOp_mono ?_ (h.step i o ho a w h1 h2 h3 h4 fun e hm hb oe d g1 g2 => h5 e.on oe d (ha e hm hb) g1 g2)
  rintro a' w' ⟨v, rfl, hE, hV⟩
  refine ⟨by simpa using h0, by cases o.dst <;> simp [Act.put, h1], by cases o.dst <;> exact h2, h.tr _ _ _ h3 hE, fun d hd' => ?_, fun k ok d hk g1 g2 => ?_⟩
  ·cases hod : o.dst with
   | none => exact h4 d hd'
   | some d' =>
    rw [put_getD (fun e => hd' i o ho (by rw [hod, e]))]
    exact h4 d hd'
  ·by_cases e : k = i
   ·subst e
    rw [ho] at g1
    injection g1 with g1
    subst g1
    rw [g2, put_getD_same (by rw [h1]; exact h.lt k o d ho g2)]
    exact hV
   ·have hk' : l.getD k false = true := by
     simp only [Array.getD_eq_getD_getElem?, Array.getElem?_setIfInBounds, if_neg (fun h : i = k => e h.symm)] at hk ⊢
     exact hk
    have := h.mono _ _ _ _ hE (h5 k ok d hk' g1 g2)
    cases hod : o.dst with
    | none => exact this
    | some d' =>
     rw [put_getD (fun e' => e (h.dst k i ok o d g1 ho g2 (by rw [hod, e'])))]
     exact this
 ·rintro l a w ⟨h0, h1, h2, h3, h4, h5⟩ hn
  have all : ∀ k, k < ops.size → l.getD k false = true := by
   intro k
   induction k using Nat.strongRecOn with
   | ind k ih =>
    intro hk
    cases hl : l.getD k false with
    | true => rfl
    | false =>
     exfalso
     have hf : l.getD k true = false := by
      simp only [Array.getD_eq_getD_getElem?, Array.getElem?_eq_getElem (show k < l.size by omega), Option.getD_some] at hl ⊢
      exact hl
     have ho : ops[k]? = some ops[k] := Array.getElem?_eq_getElem hk
     have : k ∈ Region.ready .any ops l := mem_ready.2 ⟨hf, _, ho, fun e hm hb => by
      have h6 := h.ord k _ ho e hm hb
      exact ih e.on h6 (by omega)⟩
     rw [hn] at this
     cases this
  exact he a w h1 h2 h3 h4 fun k o d g1 g2 => h5 k o d (all k (Array.getElem?_eq_some_iff.1 g1).1) g1 g2
theorem wpOp_val {k : Nat} {o : Oper} (ho : ops[k]? = some o) (hg : o.guard = none) {a : Act} {w w' : World} {v : Value} {K : Act → World → Prop} (hr : (execOp a.eval o).run P w = .ok (.value v) w') (hK : K (a.put o.dst v) w') : wpOp P ops Q k K a w := by
 unfold wpOp
 simp only [ho]
 rw [if_pos (by simp [Region.wanted, hg])]
 left
 unfold Oper.wp
 rw [hr]
 exact hK
theorem wpOp_call {k : Nat} {o : Oper} (ho : ops[k]? = some o) (hg : o.guard = none) {a : Act} {w : World} {f : FuncId} {args : Array Value} {R : Ending → World → Prop} {K : Act → World → Prop} (hr : (execOp a.eval o).run P w = .ok (.enter f args) w) (hc : Calls P f args w R)
  (hR : ∀ e w', R e w' → ∃ v, e = .returned v ∧ K (a.put o.dst v) w') : wpOp P ops Q k K a w := by
 unfold wpOp
 simp only [ho]
 rw [if_pos (by simp [Region.wanted, hg])]
 left
 unfold Oper.wp
 rw [hr]
 refine Calls.mono hc fun e w' h => ?_
 obtain ⟨v, rfl, hk⟩ := hR e w' h
 exact hk
end
end Tv
end Go.Proofs.YtpabdmcbahmjnaaGreat
namespace Go.Proofs.YtpabdmcbahmjnaaGreat
namespace Tv
open Go Go.RowKit
set_option linter.unusedSimpArgs false
set_option linter.unusedVariables false
def tbM : List CV := [.loc 1000 0, .tint .u64, .slice 4 129, .slice 54 129, .slice 104 129, .slice 3 129, .slice 54 129, .slice 4 129, .slice 4 129, .any]
noncomputable def ntC : Cfg := ⟨⟨tab, [(40, sCreate.spec)], []⟩, tcOf [1000], [1002, 1000], fun id => match assoc [(6, ⟨.take 0 (.take 1 (.take 2 (.take 4 (.take 5 (.take 6 (.take 8 (.take 9 (.take 10 (.take 3 (.take 7 (.take 11 (.step 12 (.take 13 (.step 14 (.take 15 (.step 16 (.done))))))))))))))))), [1002], false, []⟩)] id with | some p => p | none => ⟨.done, [], false, []⟩⟩
noncomputable def ntRest : Code := sndC (sndC (bodyC Tryz.f22))
def ntEnv : List (Nat × AV) := [(3, .one (.c (.loc 1002 0)))]
def ntBox (L : Nat) : List (Nat × List CV) := [(1002, tbM), (1000, memB L)]
noncomputable def ntEnd (L : Nat) : St → Prop := fun S => ∃ L2 : Nat, S.L = L2 ∧ L ≤ L2 ∧ L2 ≤ L + 5 ∧ (match resOf tab S Tryz.f22.results.toList with | some r => wkR r (.one (.c (.loc 1002 0))) | none => False) ∧ wkB S.box [(1002, tbM), (1000, memB L2)]
noncomputable def ntPost (L : Nat) : Post := ⟨fun _ => False, fun _ _ => False, ntEnd L⟩
set_option maxRecDepth 100000 in
set_option maxHeartbeats 8000000 in
theorem nt_vc (L : Nat) (h0 : 64 ≤ L) (h1 : L + 10 ≤ 137438950000) : vc ntC ntRest ⟨envL ntEnv, assoc (ntBox L), L⟩ (ntPost L) := by
 repeat' (first | (with_reducible refine Pch.mk ?_; kernel_rfl) | (intro n hr h; replace h := h (by omega) (by omega); subst h) | (intro h; try (exfalso; first | contradiction | exact h True.intro)) | ((conv => whnf) <;> (first | (with_reducible refine WL.mk ?_) | with_reducible refine And.intro ?_ ?_ | with_reducible exact True.intro | exact Eq.refl _)))
 all_goals (first | (first | assumption | contradiction | omega | ((conv => whnf); (try show (_ : Nat) ≤ _); (try dsimp only); omega)) | ((conv => whnf); refine' ⟨Int, fun | i => ⟨[(3, .one (.c (.loc 1002 0))), (4, .one (.c (.int .i64 i)))], [(1002, tbM), (1000, memB L)], L⟩, fun | i => 0 ≤ i ∧ i ≤ 129, fun | i => (129 - i).toNat, ⟨0, _, _⟩, _⟩))
 all_goals (repeat' (first | exact True.intro | exact Eq.refl _ | exact Iff.refl _ | ((conv => whnf) <;> (first | (with_reducible refine WL.mk ?_) | with_reducible refine And.intro ?_ ?_ | with_reducible refine Iff.intro ?_ ?_))))
 all_goals (first | (first | assumption | contradiction | omega | ((conv => whnf); (try show (_ : Nat) ≤ _); (try dsimp only); omega)) | (rintro i ⟨hx1, hx2⟩; (repeat' (first | (with_reducible refine Pch.mk ?_; kernel_rfl) | (intro n hr h; replace h := h (by omega) (by omega); subst h) | (intro h; try (exfalso; first | contradiction | exact h True.intro)) | ((conv => whnf) <;> (first | (with_reducible refine WL.mk ?_) | with_reducible refine And.intro ?_ ?_ | with_reducible exact True.intro | exact Eq.refl _))))))
 all_goals (first | (first | assumption | contradiction | omega | ((conv => whnf); (try show (_ : Nat) ≤ _); (try dsimp only); omega)) | ((conv => whnf); first | refine' ⟨_, _, _, _⟩))
 all_goals (repeat' (first | exact True.intro | exact Eq.refl _ | exact Iff.refl _ | ((conv => whnf) <;> (first | (with_reducible refine WL.mk ?_) | with_reducible refine And.intro ?_ ?_ | with_reducible refine Iff.intro ?_ ?_))))
 all_goals (first | assumption | contradiction | omega | ((conv => whnf); (try show (_ : Nat) ≤ _); (try dsimp only); omega))
end Tv
end Go.Proofs.YtpabdmcbahmjnaaGreat
namespace Go.Proofs.YtpabdmcbahmjnaaGreat
namespace Tv
open Go Go.RowKit Go.MapKept
set_option linter.unusedSimpArgs false
set_option linter.unusedVariables false
def nd2 : Array Value := #[.int .i64 1, .int .i64 0, .int .i64 0, .int .u64 0, .slice none 0 0, .int .u64 0, .string ⟨#[]⟩, .int .u64 0, .slice none 0 0, .int .i64 0, .int .i64 0, .int .i64 0, .int .i64 0, .int .i64 0, .int .i64 1, .int .i64 0, .int .i64 0, .int .u64 0, .slice none 0 0, .int .u64 0, .string ⟨#[]⟩, .int .u64 0, .slice none 0 0, .int .i64 0, .int .i64 0, .int .i64 0, .int .i64 0, .int .i64 0]
def memC (c : Nat) : Array Value := #[.slice (some ⟨c, 0, none⟩) 2 2, .slice none 0 0, .int .i64 0, .int .i64 0]
theorem new05_any (w : World) : Calls Tryz.prog 39 #[] w fun e w' => e = .returned (.pointer (some ⟨w.heap.size + 1, 0, none⟩)) ∧ w' = (w.alloc (.cells nd2 110)).alloc (.cells (memC w.heap.size) 115) := by
 go_enter Tryz.func39, Tryz.ntmps39
 go_wp2_with fail
 go_ret
 exact ⟨rfl, rfl⟩
def sgL (l : List (Nat × (List CT × Nat))) : Sg := fun b => assoc l b
theorem sgL_at {w : World} {l : List (Nat × (List CT × Nat))} (h : ∀ x ∈ l, ∃ cs E, w.heap[x.1]? = some (.cells cs E (0, 0)) ∧ x.2 = (tab.lay E, cs.size / (tab.lay E).length)) {b : Nat} {y : List CT × Nat} (hy : (b, y) ∈ l) : sgL l b = some y := by
 unfold sgL
 cases hs : assoc l b with
 | none =>
  exfalso
  clear h
  induction l with
  | nil => cases hy
  | cons x l ih =>
   obtain ⟨i, z⟩ := x
   unfold assoc at hs
   cases hb : Nat.beq b i with
   | true => rw [hb] at hs; cases hs
   | false =>
    rw [hb] at hs
    rcases List.mem_cons.1 hy with e | e
    ·injection e with e1 e2
     subst e1
     simp at hb
    ·exact ih e hs
 | some z =>
  obtain ⟨c1, E1, h1, h2⟩ := h _ hy
  obtain ⟨c2, E2, h3, h4⟩ := h _ (assoc_mem hs)
  simp only at h1 h2 h3 h4
  rw [h1] at h3
  injection h3 with h3
  injection h3 with e1 e2
  subst e1; subst e2
  rw [h2, h4]
theorem sgL_none {l : List (Nat × (List CT × Nat))} {b : Nat} (h : ∀ x ∈ l, x.1 ≠ b) : sgL l b = none := by
 unfold sgL
 cases hs : assoc l b with
 | none => rfl
 | some z => exact absurd rfl (h _ (assoc_mem hs))
theorem core_sgL {w : World} {l : List (Nat × (List CT × Nat))} {L : Nat} (hL : L ≤ lenMax) (h : ∀ b Ls m, (b, (Ls, m)) ∈ l → 0 < Ls.length ∧ ∃ cs T, w.heap[b]? = some (.cells cs T (0, 0)) ∧ cs.size = m * Ls.length ∧ ∀ i v ct, cs[i]? = some v → Ls[i % Ls.length]? = some ct → ct.ok tab (sgL l) L v) : Core (sgL l) L w := by
 refine ⟨fun b Ls m hb => h b Ls m (assoc_mem hb), (fun id cs hc => by cases hc), (fun id id' b h1 => by cases h1), (fun id b h1 => by cases h1), (fun id b h1 => by cases h1), fun b x hb => ?_, hL⟩
 obtain ⟨_, cs, T, h1, _⟩ := h b x.1 x.2 (assoc_mem hb)
 exact (Array.getElem?_eq_some_iff.1 h1).1
theorem nd2_fits {σ : Sg} {L i : Nat} {v : Value} {ct : CT} (hv : nd2[i]? = some v) (hc : (tab.lay 110)[i % 14]? = some ct) : ct.ok tab σ L v := by
 have hi : i < 28 := (Array.getElem?_eq_some_iff.1 hv).1
 have hl : tab.lay 110 = [.int .i64, .int .i64, .int .i64, .int .u64, .slice 51, .int .u64, .str, .int .u64, .slice 139, .int .i64, .int .i64, .int .i64, .int .i64, .int .i64] := rfl
 rw [hl] at hc
 have zf := @zero_fits ct σ L
 have one : ct = .int .i64 → v = .int .i64 1 → ct.ok tab σ L v := by
  rintro rfl rfl
  exact ⟨1, rfl, by rw [i64_min]; omega, by rw [i64_max]; omega⟩
 match i, hi with
 | 0, _ => have hc := Option.some.inj hc; have hv := Option.some.inj hv; subst hc; subst hv; exact one rfl rfl
 | 1, _ => have hc := Option.some.inj hc; have hv := Option.some.inj hv; subst hc; subst hv; exact zf
 | 2, _ => have hc := Option.some.inj hc; have hv := Option.some.inj hv; subst hc; subst hv; exact zf
 | 3, _ => have hc := Option.some.inj hc; have hv := Option.some.inj hv; subst hc; subst hv; exact zf
 | 4, _ => have hc := Option.some.inj hc; have hv := Option.some.inj hv; subst hc; subst hv; exact zf
 | 5, _ => have hc := Option.some.inj hc; have hv := Option.some.inj hv; subst hc; subst hv; exact zf
 | 6, _ => have hc := Option.some.inj hc; have hv := Option.some.inj hv; subst hc; subst hv; exact zf
 | 7, _ => have hc := Option.some.inj hc; have hv := Option.some.inj hv; subst hc; subst hv; exact zf
 | 8, _ => have hc := Option.some.inj hc; have hv := Option.some.inj hv; subst hc; subst hv; exact zf
 | 9, _ => have hc := Option.some.inj hc; have hv := Option.some.inj hv; subst hc; subst hv; exact zf
 | 10, _ => have hc := Option.some.inj hc; have hv := Option.some.inj hv; subst hc; subst hv; exact zf
 | 11, _ => have hc := Option.some.inj hc; have hv := Option.some.inj hv; subst hc; subst hv; exact zf
 | 12, _ => have hc := Option.some.inj hc; have hv := Option.some.inj hv; subst hc; subst hv; exact zf
 | 13, _ => have hc := Option.some.inj hc; have hv := Option.some.inj hv; subst hc; subst hv; exact zf
 | 14, _ => have hc := Option.some.inj hc; have hv := Option.some.inj hv; subst hc; subst hv; exact one rfl rfl
 | 15, _ => have hc := Option.some.inj hc; have hv := Option.some.inj hv; subst hc; subst hv; exact zf
 | 16, _ => have hc := Option.some.inj hc; have hv := Option.some.inj hv; subst hc; subst hv; exact zf
 | 17, _ => have hc := Option.some.inj hc; have hv := Option.some.inj hv; subst hc; subst hv; exact zf
 | 18, _ => have hc := Option.some.inj hc; have hv := Option.some.inj hv; subst hc; subst hv; exact zf
 | 19, _ => have hc := Option.some.inj hc; have hv := Option.some.inj hv; subst hc; subst hv; exact zf
 | 20, _ => have hc := Option.some.inj hc; have hv := Option.some.inj hv; subst hc; subst hv; exact zf
 | 21, _ => have hc := Option.some.inj hc; have hv := Option.some.inj hv; subst hc; subst hv; exact zf
 | 22, _ => have hc := Option.some.inj hc; have hv := Option.some.inj hv; subst hc; subst hv; exact zf
 | 23, _ => have hc := Option.some.inj hc; have hv := Option.some.inj hv; subst hc; subst hv; exact zf
 | 24, _ => have hc := Option.some.inj hc; have hv := Option.some.inj hv; subst hc; subst hv; exact zf
 | 25, _ => have hc := Option.some.inj hc; have hv := Option.some.inj hv; subst hc; subst hv; exact zf
 | 26, _ => have hc := Option.some.inj hc; have hv := Option.some.inj hv; subst hc; subst hv; exact zf
 | 27, _ => have hc := Option.some.inj hc; have hv := Option.some.inj hv; subst hc; subst hv; exact zf
def MkB (B : Nat) (E : TypeId) (w : World) (b : Nat) : Prop := B ≤ b ∧ ∃ Z : Array Value, w.heap[b]? = some (.cells Z E (0, 0)) ∧ Z.size = 129 * (tab.lay E).length ∧ 0 < (tab.lay E).length ∧ ∀ i v ct, Z[i]? = some v → (tab.lay E)[i % (tab.lay E).length]? = some ct → v = zeroVal ct
theorem kept_lt {B b : Nat} {w w' : World} {o : Obj} (h : w.heap[b]? = some o) (hb : Below w.heap.size w w') : w'.heap[b]? = some o := (hb.block b (Array.getElem?_eq_some_iff.1 h).1).trans h
theorem MkB.mono {B b : Nat} {E : TypeId} {w w' : World} (h : MkB B E w b) (hb : Below w.heap.size w w') : MkB B E w' b := by
 obtain ⟨h1, Z, h2, h3⟩ := h
 exact ⟨h1, Z, kept_lt (B := 0) h2 hb, h3⟩
structure NtF (B : Nat) (mk : Int) (w : World) (t : TN) : Prop where
 m : t.mask = mk
 mem : ∃ c, B ≤ c ∧ B ≤ t.bm ∧ w.heap[t.bm]? = some (.cells (memC c) 115 (0, 0)) ∧ w.heap[c]? = some (.cells nd2 110 (0, 0))
 b2 : MkB B 4 w t.b2
 b3 : MkB B 54 w t.b3
 b4 : MkB B 104 w t.b4
 b5 : MkB B 3 w t.b5
 b6 : MkB B 54 w t.b6
 b7 : MkB B 4 w t.b7
 b8 : MkB B 4 w t.b8
 bo : MkB B 68 w t.bo
theorem NtF.mono {B : Nat} {mk : Int} {t : TN} {w w' : World} (h : NtF B mk w t) (hb : Below w.heap.size w w') : NtF B mk w' t := by
 obtain ⟨c, h1, h2, h3, h4⟩ := h.mem
 exact ⟨h.m, ⟨c, h1, h2, kept_lt (B := 0) h3 hb, kept_lt (B := 0) h4 hb⟩, h.b2.mono hb, h.b3.mono hb, h.b4.mono hb, h.b5.mono hb, h.b6.mono hb, h.b7.mono hb, h.b8.mono hb, h.bo.mono hb⟩
def NtV (B : Nat) (mk : Int) (k : Nat) (w : World) (v : Value) : Prop :=
 match k with
 | 0 => ∃ b c, v = .pointer (some ⟨b, 0, none⟩) ∧ B ≤ c ∧ B ≤ b ∧ w.heap[b]? = some (.cells (memC c) 115 (0, 0)) ∧ w.heap[c]? = some (.cells nd2 110 (0, 0))
 | 1 => v = .int .u64 mk
 | 2 => ∃ b, v = .slice (some ⟨b, 0, none⟩) 129 129 ∧ MkB B 4 w b
 | 3 => ∃ b, v = .slice (some ⟨b, 0, none⟩) 129 129 ∧ MkB B 54 w b
 | 4 => ∃ b, v = .slice (some ⟨b, 0, none⟩) 129 129 ∧ MkB B 104 w b
 | 5 => ∃ b, v = .slice (some ⟨b, 0, none⟩) 129 129 ∧ MkB B 3 w b
 | 6 => ∃ b, v = .slice (some ⟨b, 0, none⟩) 129 129 ∧ MkB B 54 w b
 | 7 => ∃ b, v = .slice (some ⟨b, 0, none⟩) 129 129 ∧ MkB B 4 w b
 | 8 => ∃ b, v = .slice (some ⟨b, 0, none⟩) 129 129 ∧ MkB B 4 w b
 | 9 => ∃ b, v = .slice (some ⟨b, 0, none⟩) 129 129 ∧ MkB B 68 w b
 | 10 => ∃ t : TN, v = .agg t.cells ∧ NtF B mk w t
 | _ => ∃ t : TN, v = .pointer (some ⟨t.bt, 0, none⟩) ∧ B ≤ t.bt ∧ w.heap[t.bt]? = some (.cells t.cells 84 (0, 0)) ∧ NtF B mk w t
theorem NtV.mono {B : Nat} {mk : Int} {k : Nat} {w w' : World} {v : Value} (hb : Below w.heap.size w w') (h : NtV B mk k w v) : NtV B mk k w' v := by
 match k, h with
 | 0, ⟨b, c, h1, h2, h3, h4, h5⟩ => exact ⟨b, c, h1, h2, h3, kept_lt (B := 0) h4 hb, kept_lt (B := 0) h5 hb⟩
 | 1, h => exact h
 | 2, ⟨b, h1, h2⟩ => exact ⟨b, h1, h2.mono hb⟩
 | 3, ⟨b, h1, h2⟩ => exact ⟨b, h1, h2.mono hb⟩
 | 4, ⟨b, h1, h2⟩ => exact ⟨b, h1, h2.mono hb⟩
 | 5, ⟨b, h1, h2⟩ => exact ⟨b, h1, h2.mono hb⟩
 | 6, ⟨b, h1, h2⟩ => exact ⟨b, h1, h2.mono hb⟩
 | 7, ⟨b, h1, h2⟩ => exact ⟨b, h1, h2.mono hb⟩
 | 8, ⟨b, h1, h2⟩ => exact ⟨b, h1, h2.mono hb⟩
 | 9, ⟨b, h1, h2⟩ => exact ⟨b, h1, h2.mono hb⟩
 | 10, ⟨t, h1, h2⟩ => exact ⟨t, h1, h2.mono hb⟩
 | n + 11, ⟨t, h1, h2, h3, h4⟩ => exact ⟨t, h1, h2, kept_lt (B := 0) h3 hb, h4.mono hb⟩
def faxChk (ops : Array Oper) (N : Nat) : Bool :=
 (List.range ops.size).all fun k => match ops[k]? with
  | some o => (match o.dst with
    | some d => Nat.blt d N && (List.range ops.size).all fun j => Nat.beq j k || (match ops[j]? with
      | some o' => (match o'.dst with | some d' => !Nat.beq d' d | none => true)
      | none => true)
    | none => true) && o.after.toList.all fun e => !Region.binds .any e || Nat.blt e.on k
  | none => true
theorem faxChk_at {ops : Array Oper} {N : Nat} (h : faxChk ops N = true) {k : Nat} {o : Oper} (ho : ops[k]? = some o) : (∀ d, o.dst = some d → d < N ∧ ∀ j o', ops[j]? = some o' → o'.dst = some d → j = k) ∧ ∀ e ∈ o.after, Region.binds .any e = true → e.on < k := by
 have hk := (Array.getElem?_eq_some_iff.1 ho).1
 have := List.all_eq_true.1 h k (List.mem_range.2 hk)
 rw [ho] at this
 simp only [Bool.and_eq_true] at this
 obtain ⟨h1, h2⟩ := this
 refine ⟨fun d hd => ?_, fun e he hb => ?_⟩
 ·rw [hd] at h1
  simp only [Bool.and_eq_true, Nat.blt_eq] at h1
  refine ⟨h1.1, fun j o' hj hd' => ?_⟩
  have h3 := List.all_eq_true.1 h1.2 j (List.mem_range.2 (Array.getElem?_eq_some_iff.1 hj).1)
  rw [hj] at h3
  simp only [hd', Bool.or_eq_true, Nat.beq_eq] at h3
  rcases h3 with h3 | h3
  ·exact h3
  ·simp at h3
 ·have h3 := List.all_eq_true.1 h2 e (by simpa using he)
  simp only [Bool.or_eq_true, Nat.blt_eq] at h3
  rcases h3 with h3 | h3
  ·rw [hb] at h3; cases h3
  ·exact h3
theorem faxChk_no {ops : Array Oper} {d : Nat} (h : (ops.toList.all fun o => match o.dst with | some d' => !Nat.beq d' d | none => true) = true) : ∀ (j : Nat) (o' : Oper), ops[j]? = some o' → o'.dst ≠ some d := by
 intro j o' hj hd
 have hm : o' ∈ ops.toList := by simpa using Array.mem_of_getElem? hj
 have := List.all_eq_true.1 h o' hm
 rw [hd] at this
 simp at this
theorem below_new (w : World) (o : Obj) : Below w.heap.size w (w.alloc o) := (Below.refl _ _).alloc (Nat.le_refl _) o
theorem below_tr {w w' w'' : World} (h : Below w.heap.size w w') (h' : Below w'.heap.size w' w'') : Below w.heap.size w w'' := h.trans (h'.mono h.size)
theorem call_run (f : FuncId) (h : Entr Tryz.prog f) (a : Act) (o : Oper) (args : Array Operand) (tys : Array TypeId) (ho : o.op = .call { callee := .value (.func f), args := args, argTypes := tys }) (w : World) :
  (execOp a.eval o).run Tryz.prog w = .ok (.enter f (args.map a.eval)) w := by
 have h1 : execOp a.eval o = callFunc f (#[] ++ args.map a.eval ++ #[]) := by
  unfold execOp
  simp only [ho, resolve]
  rfl
 rw [h1, callFunc_run h]
 simp
theorem wpOp_make {ops : Array Oper} {Q : Exit → Act → World → Prop} {k : Nat} {o : Oper} (ho : ops[k]? = some o) {S E : TypeId} (hop : o.op = .makeSlice S (.const (.int .i64 129)) (.const (.int .i64 129))) (hg : o.guard = none) (hE : tab.elem S = some E) {a : Act} {w : World} {K : Act → World → Prop}
  (hK : ∀ Z : Array Value, 0 < (tab.lay E).length → Z.size = 129 * (tab.lay E).length → (∀ i v ct, Z[i]? = some v → (tab.lay E)[i % (tab.lay E).length]? = some ct → v = zeroVal ct) → K (a.put o.dst (.slice (some ⟨w.heap.size, 0, none⟩) 129 129)) (w.alloc (.cells Z E))) : wpOp Tryz.prog ops Q k K a w := by
 obtain ⟨Z, hz, hp, hs, hc⟩ := make_any hE 129 (by omega)
 refine wpOp_val ho hg ?_ (hK Z hp hs hc)
 have hz' : (Instr.makeSlice S (.int .i64 129) (.int .i64 129)).run Tryz.prog w = .ok (.slice (some ⟨w.heap.size, 0, none⟩) 129 129) (w.alloc (.cells Z E)) := hz w
 have h1 : (execOp a.eval o).run Tryz.prog w = (Next.value <$> Instr.makeSlice S (.int .i64 129) (.int .i64 129) : Sem Next).run Tryz.prog w := by
  unfold execOp
  rw [hop]
  rfl
 rw [h1, Sem.run_map, hz']
 rfl
theorem at_op {ops : Array Oper} {k : Nat} {o : Oper} (ho : ops[k]? = some o) {x : Op} {d : Option Nat} (h : ∃ o', ops[k]? = some o' ∧ o'.op = x ∧ o'.guard = none ∧ o'.dst = d) : o.op = x ∧ o.guard = none ∧ o.dst = d := by
 obtain ⟨o', h1, h2⟩ := h
 rw [ho] at h1
 injection h1 with h1
 subst h1
 exact h2
theorem after_op {ops : Array Oper} {k : Nat} {o : Oper} (ho : ops[k]? = some o) {j : Nat} (h : ∃ o', ops[k]? = some o' ∧ o'.after.toList.any (fun e => Region.binds .any e && Nat.beq e.on j) = true) : ∃ e ∈ o.after, Region.binds .any e = true ∧ e.on = j := by
 obtain ⟨o', h1, h2⟩ := h
 rw [ho] at h1
 injection h1 with h1
 subst h1
 obtain ⟨e, h3, h4⟩ := List.any_eq_true.1 h2
 rw [Bool.and_eq_true] at h4
 exact ⟨e, by simpa using h3, h4.1, Nat.eq_of_beq_eq_true h4.2⟩
noncomputable def ntOps : Array Oper := match fstC (sndC (bodyC Tryz.f22)) with
 | .region _ ops _ => ops
 | _ => #[]
set_option maxRecDepth 100000 in
set_option maxHeartbeats 8000000 in
theorem nt_fax {Q : Exit → Act → World → Prop} (mk : Int) (w w0 : World) (hb : w.heap.size ≤ w0.heap.size) (a0 : Act) (h0 : a0.tmps.getD 0 Go.undef = .int .u64 mk) : Fax Tryz.prog ntOps Q 43 (NtV w.heap.size mk) (fun w w' => Below w.heap.size w w') a0 w0 := by
 have hck : faxChk ntOps 43 = true := by kernel_rfl
 refine ⟨fun _ _ _ h h' => below_tr h h', fun _ _ _ _ h h' => h'.mono h, fun j k o o' d h1 h2 h3 h4 => (((faxChk_at hck h2).1 d h4).2 j o h1 h3), fun k o d h1 h2 => ((faxChk_at hck h1).1 d h2).1, fun k o h1 => (faxChk_at hck h1).2, ?_⟩
 intro k o ho a w' hN hd hE' hU hA
 have hE : w.heap.size ≤ w'.heap.size := Nat.le_trans hb hE'.size
 have hk : k < 13 := (Array.getElem?_eq_some_iff.1 ho).1
 have hV : ∀ j, (∃ e ∈ o.after, Region.binds .any e = true ∧ e.on = j) → ∀ oe d, ntOps[j]? = some oe → oe.dst = some d → NtV w.heap.size mk j w' (a.tmps.getD d Go.undef) := by
  rintro j ⟨e, h1, h2, h3⟩ oe d h4 h5
  subst h3
  exact hA e h1 h2 oe d h4 h5
 match k, ho with
  | 0, ho =>
   obtain ⟨p1, p2, p3⟩ := at_op ho ⟨_, rfl, rfl, rfl, rfl⟩
   refine wpOp_call ho p2 (call_run _ ⟨_, Tryz.func39, rfl, rfl⟩ a o _ _ p1 w') (R := fun e w1 => e = .returned (.pointer (some ⟨w'.heap.size + 1, 0, none⟩)) ∧ w1 = (w'.alloc (.cells nd2 110)).alloc (.cells (memC w'.heap.size) 115)) (by rw [show Array.map a.eval #[] = #[] by simp]; exact new05_any w') ?_
   rintro e w1 ⟨rfl, rfl⟩
   refine ⟨_, rfl, _, rfl, below_tr (below_new _ _) (below_new _ _), ⟨w'.heap.size + 1, w'.heap.size, rfl, hE, Nat.le_succ_of_le hE, ?_, ?_⟩⟩
   ·have := (heap_alloc (w'.alloc (.cells nd2 110)) (.cells (memC w'.heap.size) 115)).1
    have z : (w'.alloc (.cells nd2 110)).heap.size = w'.heap.size + 1 := by simp
    rw [z] at this
    exact this
   ·exact (Below.heap_alloc _ _ _ (by simp)).trans (heap_alloc w' _).1
  | 1, ho =>
   obtain ⟨p1, p2, p3⟩ := at_op ho ⟨_, rfl, rfl, rfl, rfl⟩
   refine wpOp_val ho p2 (v := a.tmps.getD 0 Go.undef) (w' := w') (by unfold execOp; simp only [p1]; rfl) ⟨_, rfl, Below.refl _ _, ?_⟩
   show a.tmps.getD 0 Go.undef = _
   rw [hU 0 (fun j o' hj hd' => by
    have := (faxChk_no (ops := ntOps) (d := 0) (by kernel_rfl)) j o' hj
    exact this hd'), h0]
  | 2, ho =>
   obtain ⟨p1, p2, p3⟩ := at_op ho ⟨_, rfl, rfl, rfl, rfl⟩
   exact wpOp_make (S := 80) (E := 4) ho p1 p2 rfl fun Z hp hs hc => ⟨_, rfl, below_new _ _, ⟨w'.heap.size, rfl, hE, Z, (heap_alloc w' _).1, hs, hp, hc⟩⟩
  | 3, ho =>
   obtain ⟨p1, p2, p3⟩ := at_op ho ⟨_, rfl, rfl, rfl, rfl⟩
   exact wpOp_make (S := 81) (E := 54) ho p1 p2 rfl fun Z hp hs hc => ⟨_, rfl, below_new _ _, ⟨w'.heap.size, rfl, hE, Z, (heap_alloc w' _).1, hs, hp, hc⟩⟩
  | 4, ho =>
   obtain ⟨p1, p2, p3⟩ := at_op ho ⟨_, rfl, rfl, rfl, rfl⟩
   exact wpOp_make (S := 82) (E := 104) ho p1 p2 rfl fun Z hp hs hc => ⟨_, rfl, below_new _ _, ⟨w'.heap.size, rfl, hE, Z, (heap_alloc w' _).1, hs, hp, hc⟩⟩
  | 5, ho =>
   obtain ⟨p1, p2, p3⟩ := at_op ho ⟨_, rfl, rfl, rfl, rfl⟩
   exact wpOp_make (S := 22) (E := 3) ho p1 p2 rfl fun Z hp hs hc => ⟨_, rfl, below_new _ _, ⟨w'.heap.size, rfl, hE, Z, (heap_alloc w' _).1, hs, hp, hc⟩⟩
  | 6, ho =>
   obtain ⟨p1, p2, p3⟩ := at_op ho ⟨_, rfl, rfl, rfl, rfl⟩
   exact wpOp_make (S := 81) (E := 54) ho p1 p2 rfl fun Z hp hs hc => ⟨_, rfl, below_new _ _, ⟨w'.heap.size, rfl, hE, Z, (heap_alloc w' _).1, hs, hp, hc⟩⟩
  | 7, ho =>
   obtain ⟨p1, p2, p3⟩ := at_op ho ⟨_, rfl, rfl, rfl, rfl⟩
   exact wpOp_make (S := 80) (E := 4) ho p1 p2 rfl fun Z hp hs hc => ⟨_, rfl, below_new _ _, ⟨w'.heap.size, rfl, hE, Z, (heap_alloc w' _).1, hs, hp, hc⟩⟩
  | 8, ho =>
   obtain ⟨p1, p2, p3⟩ := at_op ho ⟨_, rfl, rfl, rfl, rfl⟩
   exact wpOp_make (S := 80) (E := 4) ho p1 p2 rfl fun Z hp hs hc => ⟨_, rfl, below_new _ _, ⟨w'.heap.size, rfl, hE, Z, (heap_alloc w' _).1, hs, hp, hc⟩⟩
  | 9, ho =>
   obtain ⟨p1, p2, p3⟩ := at_op ho ⟨_, rfl, rfl, rfl, rfl⟩
   exact wpOp_make (S := 66) (E := 68) ho p1 p2 rfl fun Z hp hs hc => ⟨_, rfl, below_new _ _, ⟨w'.heap.size, rfl, hE, Z, (heap_alloc w' _).1, hs, hp, hc⟩⟩
  | 10, ho =>
   obtain ⟨p1, p2, p3⟩ := at_op ho (x := .build 84 #[(0, .tmp 5), (1, .tmp 6), (2, .tmp 7), (3, .tmp 8), (4, .tmp 9), (5, .tmp 10), (6, .tmp 11), (7, .tmp 12), (8, .tmp 13), (9, .tmp 14)]) ⟨_, rfl, rfl, rfl, rfl⟩
   have g0 := hV 0 (after_op ho ⟨_, rfl, by kernel_rfl⟩) _ 5 rfl rfl
   have g1 := hV 1 (after_op ho ⟨_, rfl, by kernel_rfl⟩) _ 6 rfl rfl
   have g2 := hV 2 (after_op ho ⟨_, rfl, by kernel_rfl⟩) _ 7 rfl rfl
   have g3 := hV 3 (after_op ho ⟨_, rfl, by kernel_rfl⟩) _ 8 rfl rfl
   have g4 := hV 4 (after_op ho ⟨_, rfl, by kernel_rfl⟩) _ 9 rfl rfl
   have g5 := hV 5 (after_op ho ⟨_, rfl, by kernel_rfl⟩) _ 10 rfl rfl
   have g6 := hV 6 (after_op ho ⟨_, rfl, by kernel_rfl⟩) _ 11 rfl rfl
   have g7 := hV 7 (after_op ho ⟨_, rfl, by kernel_rfl⟩) _ 12 rfl rfl
   have g8 := hV 8 (after_op ho ⟨_, rfl, by kernel_rfl⟩) _ 13 rfl rfl
   have g9 := hV 9 (after_op ho ⟨_, rfl, by kernel_rfl⟩) _ 14 rfl rfl
   obtain ⟨bm, c, e0, m1, m2, m3, m4⟩ := g0
   have g1 : a.tmps.getD 6 Go.undef = .int .u64 mk := g1
   obtain ⟨b2, e2, f2⟩ := g2
   obtain ⟨b3, e3, f3⟩ := g3
   obtain ⟨b4, e4, f4⟩ := g4
   obtain ⟨b5, e5, f5⟩ := g5
   obtain ⟨b6, e6, f6⟩ := g6
   obtain ⟨b7, e7, f7⟩ := g7
   obtain ⟨b8, e8, f8⟩ := g8
   obtain ⟨b9, e9, f9⟩ := g9
   refine wpOp_val ho p2 (v := .agg (TN.cells ⟨0, bm, mk, b2, b3, b4, b5, b6, b7, b8, b9⟩)) (w' := w') ?_ ⟨_, rfl, Below.refl _ _, ⟨⟨0, bm, mk, b2, b3, b4, b5, b6, b7, b8, b9⟩, rfl, ⟨rfl, ⟨c, m1, m2, m3, m4⟩, f2, f3, f4, f5, f6, f7, f8, f9⟩⟩⟩
   simp only [Array.getD_eq_getD_getElem?] at g1 e0 e2 e3 e4 e5 e6 e7 e8 e9
   unfold execOp
   simp only [p1]
   simp [Act.eval, g1, e0, e2, e3, e4, e5, e6, e7, e8, e9, go_sem, TN.cells]
  | 11, ho =>
   obtain ⟨p1, p2, p3⟩ := at_op ho (x := .box 84 (.tmp 15)) ⟨_, rfl, rfl, rfl, rfl⟩
   obtain ⟨t, e0, f0⟩ := hV 10 (after_op ho ⟨_, rfl, by kernel_rfl⟩) _ 15 rfl rfl
   refine wpOp_val ho p2 (v := .pointer (some ⟨w'.heap.size, 0, none⟩)) (w' := w'.alloc (.cells t.cells 84)) ?_ ⟨_, rfl, below_new _ _, ⟨{ t with bt := w'.heap.size }, rfl, hE, (heap_alloc w' _).1, ?_⟩⟩
   ·simp only [Array.getD_eq_getD_getElem?] at e0
    unfold execOp
    simp only [p1]
    simp [Act.eval, e0, go_sem, TN.cells]
   ·have := f0.mono (below_new w' (.cells t.cells 84))
    exact ⟨this.m, this.mem, this.b2, this.b3, this.b4, this.b5, this.b6, this.b7, this.b8, this.bo⟩
  | 12, ho =>
   obtain ⟨p1, p2, p3⟩ := at_op ho ⟨_, rfl, rfl, rfl, rfl⟩
   have g := hV 11 (after_op ho ⟨_, rfl, by kernel_rfl⟩) _ 16 rfl rfl
   exact wpOp_val ho p2 (v := a.tmps.getD 16 Go.undef) (w' := w') (by unfold execOp; simp only [p1]; rfl) ⟨_, rfl, Below.refl _ _, g⟩
  | n + 13, ho => omega
theorem nt_go {L : Nat} (h0 : 64 ≤ L) (h1 : L + 10 ≤ 137438950000) {σ : Sg} {β : Bt} {W : World} {a : Act} (hI : Inv tab σ β (assoc (ntBox L)) L W) (hN : a.tmps.size = 43) (hd : a.defers = []) (he : ∀ x ∈ ntEnv, AV.ok tab σ β x.2 (a.tmps.getD x.1 Go.undef))
  {R : Ending → World → Prop} (hR : ∀ (W' : World) (σ' : Sg) (L2 : Nat) (v : Value), (∃ b, β 1002 = some b ∧ v = .pointer (some ⟨b, 0, none⟩)) → L ≤ L2 → L2 ≤ L + 5 → Inv tab σ' β (assoc (ntBox L2)) L2 W' → Fr (tcOf [1000]) σ β W σ' β W' → R (.returned v) W') :
  Code.wp Tryz.prog ntRest (bodyPost Tryz.prog Tryz.f22 R) a W := by
 have hdom : ∀ id b, β id = some b → memb id [1002, 1000] = true := fun id b hb => by
  obtain ⟨cs, hcs⟩ := hI.dom id b hb
  have := assoc_mem hcs
  simp only [ntBox, List.mem_cons, List.not_mem_nil, or_false, Prod.mk.injEq] at this
  rcases this with h | h <;> rw [h.1] <;> rfl
 have hb : ∀ id b, β id = some b → id ∈ ntC.base := fun id b hb => (memb_iff _ _).1 (hdom id b hb)
 have hv := nt_vc L h0 h1
 have hg : Gam tab 43 (tcOf [1000]) σ β W ⟨envL ntEnv, assoc (ntBox L), L⟩ a W := Gam.mk2 hI hN hd he
 have fin : ∀ a' W', Cov tab 43 (tcOf [1000]) σ β W (ntEnd L) a' W' → bodyPost Tryz.prog Tryz.f22 R .ret a' W' := by
  rintro a' W' ⟨S, ⟨L2, q0, q1, q2, q3, q4⟩, σ', β', k1, k2, k3, k4, k5⟩
  split at q3
  case h_2 => exact q3.elim
  rename_i r hr
  obtain ⟨v, g1, g2⟩ := resOf_ok tab_ok k1 k5 hr
  have hβ : keepB [1002, 1000] β' = β := by
   funext id
   unfold keepB
   cases hmem : memb id [1002, 1000] with
   | true =>
    have hid := (memb_iff _ _).1 hmem
    have : ∃ b, β id = some b := by
     obtain ⟨b, _, _, hb', _⟩ := hI.box id (match Nat.beq id 1002 with | true => tbM | false => memB L) (by
      rcases List.mem_cons.1 hid with e | e
      ·subst e; rfl
      ·rcases List.mem_cons.1 e with e | e
       ·subst e; rfl
       ·cases e)
     exact ⟨b, hb'⟩
    obtain ⟨b, hb'⟩ := this
    rw [hb']
    exact k2.sh id b hb'
   | false =>
    cases hb' : β id with
    | none => rfl
    | some b => rw [hdom id b hb'] at hmem; cases hmem
  have g3 := wkR_ok (ks := [1002, 1000]) g2 q3 rfl
  have g4 := k1.weak (ks := [1002, 1000]) (l := ntBox L2) rfl q4 rfl
  rw [hβ] at g3 g4
  rw [q0] at g4
  obtain ⟨b, e1, e2⟩ := g3
  refine bodyPost_ret g1 k4 (hR W' σ' L2 v ⟨b, e1, e2⟩ q1 q2 g4 ?_)
  exact ⟨k2.os, k2.tape, k2.output, k2.size, k2.sg, k2.new, fun _ _ h => h, fun _ _ h => .inl h, k2.old, k2.ro⟩
 refine wp_mono (vc_ok (P := Tryz.prog) (C := ntC) (N := 43) mixed_ok tab_ok eq_nil (satall_cons sat_Create sat_nil) hb ntRest _ _ a W (by kernel_rfl) hv hg) ?_
 intro e2 a2 W2 hq2
 cases e2 with
 | normal => obtain ⟨S, h, _⟩ := hq2; exact h.elim
 | ret => exact fin a2 W2 hq2
 | exit id => obtain ⟨S, h, _⟩ := hq2; exact h.elim
 | _ => exact hq2.elim
def NtPost (w : World) (e : Ending) (w' : World) : Prop :=
 ∃ (σ : Sg) (t : TN), e = .returned (.pointer (some ⟨t.bt, 0, none⟩)) ∧ Core σ 300 w' ∧ Bl σ nB w' t.bm (memB 300) ∧ TAt σ w' t ∧ FM (fun _ => False) (fun _ => none) w σ w' ∧ w.heap.size ≤ t.bt ∧ w.heap.size ≤ t.bm ∧ w.heap.size ≤ t.bo
theorem zero_ops {B b : Nat} {w : World} (h : MkB B 68 w b) : ∃ cs T, w.heap[b]? = some (.cells cs T (0, 0)) ∧ OpsOk cs := by
 obtain ⟨_, Z, h1, h2, _, h3⟩ := h
 have hl : tab.lay 68 = [.int .i64, .int .i64, .str, .int .u64, .int .u64] := rfl
 rw [hl] at h2 h3
 have h2 : Z.size = 645 := h2
 refine ⟨Z, _, h1, h2, fun n hn => ?_⟩
 have at' : ∀ j, j < 5 → ∀ ct, [CT.int .i64, .int .i64, .str, .int .u64, .int .u64][j]? = some ct → Z[n * 5 + j]? = some (zeroVal ct) := by
  intro j hj ct hct
  have e : Z[n * 5 + j]? = some Z[n * 5 + j] := Array.getElem?_eq_getElem (by omega)
  rw [e, h3 (n * 5 + j) _ ct e (by show [CT.int .i64, .int .i64, .str, .int .u64, .int .u64][(n * 5 + j) % 5]? = _; rw [show (n * 5 + j) % 5 = j by omega]; exact hct)]
 have z64 : InR .i64 0 := ⟨by rw [i64_min]; omega, by rw [i64_max]; omega⟩
 have zu : InR .u64 0 := ⟨by rw [u64_min]; omega, by rw [u64_max]; omega⟩
 exact ⟨0, 0, ⟨#[]⟩, 0, 0, at' 0 (by omega) _ rfl, at' 1 (by omega) _ rfl, at' 2 (by omega) _ rfl, at' 3 (by omega) _ rfl, at' 4 (by omega) _ rfl, z64, by omega, by omega, by decide, zu, zu⟩
def ntL (t : TN) (c : Nat) : List (Nat × (List CT × Nat)) := [(c, (tab.lay 110, 2)), (t.b2, (tab.lay 4, 129)), (t.b3, (tab.lay 54, 129)), (t.b4, (tab.lay 104, 129)), (t.b5, (tab.lay 3, 129)), (t.b6, (tab.lay 54, 129)), (t.b7, (tab.lay 4, 129)), (t.b8, (tab.lay 4, 129))]
theorem MkB.fits {B b : Nat} {E : TypeId} {w : World} {σ : Sg} {L : Nat} (h : MkB B E w b) : 0 < (tab.lay E).length ∧ ∃ cs T, w.heap[b]? = some (.cells cs T (0, 0)) ∧ cs.size = 129 * (tab.lay E).length ∧ ∀ i v ct, cs[i]? = some v → (tab.lay E)[i % (tab.lay E).length]? = some ct → ct.ok tab σ L v := by
 obtain ⟨_, Z, h1, h2, h3, h4⟩ := h
 exact ⟨h3, Z, _, h1, h2, fun i v ct hv hc => by rw [h4 i v ct hv hc]; exact zero_fits ct⟩
theorem MkB.tag {B b : Nat} {E : TypeId} {w : World} (h : MkB B E w b) : ∃ cs E', w.heap[b]? = some (.cells cs E' (0, 0)) ∧ (tab.lay E, 129) = (tab.lay E', cs.size / (tab.lay E').length) := by
 obtain ⟨_, Z, h1, h2, h3, _⟩ := h
 exact ⟨Z, E, h1, by rw [h2, Nat.mul_div_cancel _ h3]⟩
theorem MkB.ne {B b b' : Nat} {E E' : TypeId} {w : World} {cs : Array Value} (h : MkB B E w b) (h' : w.heap[b']? = some (.cells cs E' (0, 0))) (hE : E ≠ E') : b ≠ b' := by
 obtain ⟨_, Z, h1, _⟩ := h
 rintro rfl
 rw [h1] at h'
 injection h' with h'
 injection h' with _ h' _
 exact hE h'
set_option maxRecDepth 100000 in
set_option maxHeartbeats 8000000 in
theorem newtable_h (w : World) (mk : Int) (hm : InR .u64 mk) : Calls Tryz.prog 22 #[.int .u64 mk] w (NtPost w) := by
 go_enter Tryz.func22, Tryz.ntmps22
 go_upto_region 1 with fail
 rename_i K hK
 refine wp_region_fax (N := 43) (V := NtV w.heap.size mk) (E := fun w w' => Below w.heap.size w w') mixed_ok (nt_fax mk w w.drew (Nat.le_refl _) _ rfl) (Below.refl _ _) rfl rfl ?_
 intro a W hN hd hE hU hV
 apply hK
 obtain ⟨t, e0, e1, e2, nf⟩ := hV 12 _ 3 rfl rfl
 obtain ⟨c, m1, m2, m3, m4⟩ := nf.mem
 have hE : Below w.heap.size w W := ⟨hE.os, hE.tape, hE.output, hE.size, hE.block⟩
 have tags : ∀ x ∈ ntL t c, ∃ cs E, W.heap[x.1]? = some (.cells cs E (0, 0)) ∧ x.2 = (tab.lay E, cs.size / (tab.lay E).length) := by
  intro x hx
  simp only [ntL, List.mem_cons, List.not_mem_nil, or_false] at hx
  rcases hx with rfl | rfl | rfl | rfl | rfl | rfl | rfl | rfl
  ·exact ⟨_, _, m4, rfl⟩
  ·exact nf.b2.tag
  ·exact nf.b3.tag
  ·exact nf.b4.tag
  ·exact nf.b5.tag
  ·exact nf.b6.tag
  ·exact nf.b7.tag
  ·exact nf.b8.tag
 have nod : ∀ b' cs E', W.heap[b']? = some (.cells cs E' (0, 0)) → 110 ≠ E' → c ≠ b' := by
  rintro b' cs E' h1 h2 rfl
  rw [m4] at h1
  injection h1 with h1
  injection h1 with _ h1 _
  exact h2 h1
 have none : ∀ b' cs E', W.heap[b']? = some (.cells cs E' (0, 0)) → 110 ≠ E' → 4 ≠ E' → 54 ≠ E' → 104 ≠ E' → 3 ≠ E' → sgL (ntL t c) b' = Option.none := by
  intro b' cs E' h1 q1 q2 q3 q4 q5
  refine sgL_none fun x hx => ?_
  simp only [ntL, List.mem_cons, List.not_mem_nil, or_false] at hx
  rcases hx with rfl | rfl | rfl | rfl | rfl | rfl | rfl | rfl
  ·exact nod _ _ _ h1 q1
  ·exact nf.b2.ne h1 q2
  ·exact nf.b3.ne h1 q3
  ·exact nf.b4.ne h1 q4
  ·exact nf.b5.ne h1 q5
  ·exact nf.b6.ne h1 q3
  ·exact nf.b7.ne h1 q2
  ·exact nf.b8.ne h1 q2
 have C : Core (sgL (ntL t c)) 200 W := by
  refine core_sgL (by decide) fun b Ls m hb => ?_
  simp only [ntL, List.mem_cons, List.not_mem_nil, or_false, Prod.mk.injEq] at hb
  rcases hb with ⟨rfl, rfl, rfl⟩ | ⟨rfl, rfl, rfl⟩ | ⟨rfl, rfl, rfl⟩ | ⟨rfl, rfl, rfl⟩ | ⟨rfl, rfl, rfl⟩ | ⟨rfl, rfl, rfl⟩ | ⟨rfl, rfl, rfl⟩ | ⟨rfl, rfl, rfl⟩
  ·exact ⟨by decide, _, _, m4, rfl, fun i v ct hv hc => nd2_fits hv hc⟩
  ·exact nf.b2.fits
  ·exact nf.b3.fits
  ·exact nf.b4.fits
  ·exact nf.b5.fits
  ·exact nf.b6.fits
  ·exact nf.b7.fits
  ·exact nf.b8.fits
 have sat : ∀ b y, (b, y) ∈ ntL t c → sgL (ntL t c) b = some y := fun b y hy => sgL_at tags hy
 obtain ⟨os, To, ho, hoo⟩ := zero_ops nf.bo
 have ob : W.heap[t.bo]? = some (.cells os 68 (0, 0)) := by
  obtain ⟨_, Z, g1, _⟩ := nf.bo
  rw [g1] at ho
  injection ho with ho
  injection ho with g2 _ _
  subst g2
  exact g1
 have nbt := none _ _ _ e2 (by decide) (by decide) (by decide) (by decide) (by decide)
 have nbm := none _ _ _ m3 (by decide) (by decide) (by decide) (by decide) (by decide)
 have nbo := none _ _ _ ob (by decide) (by decide) (by decide) (by decide) (by decide)
 have dne : ∀ {b b' : Nat} {cs cs' : Array Value} {E E' : TypeId}, W.heap[b]? = some (.cells cs E (0, 0)) → W.heap[b']? = some (.cells cs' E' (0, 0)) → E ≠ E' → b ≠ b' := by
  rintro b b' cs cs' E E' h1 h2 h3 rfl
  rw [h1] at h2
  injection h2 with h2
  injection h2 with _ h2 _
  exact h3 h2
 have T : TAt (sgL (ntL t c)) W t := ⟨nbt, e2, by rw [nf.m]; exact hm, sat t.b2 (tab.lay 4, 129) (by simp [ntL]), sat t.b3 (tab.lay 54, 129) (by simp [ntL]), sat t.b4 (tab.lay 104, 129) (by simp [ntL]), sat t.b5 (tab.lay 3, 129) (by simp [ntL]), sat t.b6 (tab.lay 54, 129) (by simp [ntL]), sat t.b7 (tab.lay 4, 129) (by simp [ntL]), sat t.b8 (tab.lay 4, 129) (by simp [ntL]), nbo, ⟨os, _, ob, hoo⟩, dne e2 m3 (by decide), dne ob m3 (by decide), dne ob e2 (by decide)⟩
 have F : FM (fun b => w.heap.size ≤ b) (fun _ => Option.none) w (sgL (ntL t c)) W := by
  refine ⟨hE.os, hE.tape, hE.output, hE.size, (fun b x hb => by cases hb), fun b x hb => .inr ?_, fun b h1 h2 h3 => hE.block b h1⟩
  have := assoc_mem hb
  simp only [ntL, List.mem_cons, List.not_mem_nil, or_false, Prod.mk.injEq] at this
  rcases this with ⟨rfl, _⟩ | ⟨rfl, _⟩ | ⟨rfl, _⟩ | ⟨rfl, _⟩ | ⟨rfl, _⟩ | ⟨rfl, _⟩ | ⟨rfl, _⟩ | ⟨rfl, _⟩
  ·exact m1
  ·exact nf.b2.1
  ·exact nf.b3.1
  ·exact nf.b4.1
  ·exact nf.b5.1
  ·exact nf.b6.1
  ·exact nf.b7.1
  ·exact nf.b8.1
 have hI : Inv tab (sgL (ntL t c)) (bts [(1002, t.bt, tbM), (1000, t.bm, memB 200)]) (assoc (ntBox 200)) 200 W := by
  refine C.boxes (l := [(1002, t.bt, tbM), (1000, t.bm, memB 200)]) ?_ ?_
  ·intro x hx
   simp only [List.mem_cons, List.not_mem_nil, or_false] at hx
   rcases hx with rfl | rfl
   ·refine ⟨nbt, _, _, e2, ?_, ?_⟩
    ·exact .cons ⟨t.bm, rfl, rfl⟩ (.cons ⟨_, rfl, T.msk⟩ (.cons ⟨_, _, rfl, sl_129 T.s2⟩ (.cons ⟨_, _, rfl, sl_129 T.s3⟩ (.cons ⟨_, _, rfl, sl_129 T.s4⟩ (.cons ⟨_, _, rfl, sl_129 T.s5⟩ (.cons ⟨_, _, rfl, sl_129 T.s6⟩ (.cons ⟨_, _, rfl, sl_129 T.s7⟩ (.cons ⟨_, _, rfl, sl_129 T.s8⟩ (.cons trivial .nil)))))))))
    ·exact (T.bl (β := nB)).blk.elim fun vs h => h.elim fun T' h => by
      have h4 := h.1
      rw [e2] at h4
      injection h4 with h4
      injection h4 with h4 _ _
      rw [h4]
      exact h.2.2
   ·refine ⟨nbm, _, _, m3, .cons ⟨_, _, _, rfl, by omega, ?_⟩ (.cons ⟨Option.none, 0, 0, rfl, by omega, Nat.le_refl _, by decide, fun _ => rfl, fun a ha => by cases ha⟩ (.cons ⟨0, rfl, by rw [i64_min]; omega, by rw [i64_max]; omega⟩ (.cons ⟨0, rfl, by rw [i64_min]; omega, by rw [i64_max]; omega⟩ .nil))), ?_⟩
    ·refine ⟨Nat.le_refl _, by decide, (fun e => by cases e), fun a ha => ?_⟩
     injection ha with ha
     subst ha
     exact ⟨rfl, 2, 0, sat _ _ (by simp [ntL]), by simp, by omega⟩
    ·intro v hv
     simp only [memC, List.mem_cons, List.not_mem_nil, or_false] at hv
     rcases hv with rfl | rfl | rfl | rfl <;> rfl
  ·intro x hx y hy e
   simp only [List.mem_cons, List.not_mem_nil, or_false] at hx hy
   rcases hx with rfl | rfl <;> rcases hy with rfl | rfl <;> first | rfl | exact absurd e T.nm | exact absurd e.symm T.nm
 refine nt_go (L := 200) (by omega) (by omega) hI hN hd ?_ ?_
 ·intro x hx
  simp only [ntEnv, List.mem_cons, List.not_mem_nil, or_false] at hx
  subst hx
  exact ⟨t.bt, rfl, e0⟩
 ·rintro W' σ' L2 v ⟨b, hb, rfl⟩ l1 l2 I' F'
  have hb : t.bt = b := by injection hb
  subst hb
  have F2 : FM (fun b => b = t.bm) (sgL (ntL t c)) W σ' W' := F'.fm.le fun b _ ⟨id, h1, h2⟩ => by
   obtain ⟨cs, _, h3⟩ := bts_bxs h1
   simp only [List.mem_cons, List.not_mem_nil, or_false, Prod.mk.injEq] at h3
   rcases h3 with h | h
   ·rw [h.1] at h2; cases h2
   ·exact h.2.1
  have F3 : FM (fun b => w.heap.size ≤ b) (fun _ => Option.none) w σ' W' := F.trans (F2.le fun b _ h => by subst h; exact m2)
  exact ⟨σ', t, rfl, (Core.of I').up (by omega) (by decide), (I'.bl (id := 1000) rfl rfl).memb (by omega), T.keep F2 (fun e => T.nm e) (fun e => T.om e), F3.low, e1, m2, nf.bo.1⟩
end Tv
end Go.Proofs.YtpabdmcbahmjnaaGreat
