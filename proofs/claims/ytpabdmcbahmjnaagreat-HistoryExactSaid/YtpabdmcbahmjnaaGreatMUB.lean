/- Part of a proof: U4 U5. -/
import Derived.Test.YtpabdmcbahmjnaaGreatMUA
import Derived.Test.YtpabdmcbahmjnaaGreatMTE
namespace Go.Proofs.YtpabdmcbahmjnaaGreat
namespace Tv
open Go Go.RowKit
set_option linter.unusedSimpArgs false
set_option linter.unusedVariables false
def sRefsEq : Fs where
 α := Nat
 δ := Unit
 A := fun | L => [.one (.c (.sl 51 L)), .one (.c (.sl 51 L))]
 B := fun | L => []
 L := fun | L => L
 get := fun avs bx L => some L
 pre := fun | L => True
 rel := fun | L, () => True
 R := fun | L, () => .one (.c .tbool)
 B' := fun | L, () => []
 L' := fun | L, () => L
 reads := []
 tc := []
 st := fun p kk => match p with | L => opnA ([.one (.c (.sl 51 L)), .one (.c (.sl 51 L))]) fun avs0 => opnB ([]) fun bx0 => kk avs0 bx0 (L)
 st_ok := fun L _ h => opnA_imp (fun _ h => Or.inl h) h
 cps := fun p kk => match p with | L => opnB ([]) fun bx0 => kk (.one (.c .tbool)) bx0 (L)
 cur := fun L _ h () _ => (Or.inl (h ))
theorem sat_RefsEq : Sat Tryz.prog tab 137 sRefsEq.spec := by
 refine sat_of ⟨tab, [], []⟩ (fun id => match assoc [(6, ⟨.take 0 (.take 1 (.take 2 (.take 4 (.take 5 (.take 6 (.fork 3 (.step 7 (.take 8 (.done))) 7 (.step 3 (.take 8 (.done))))))))), [], false, []⟩)] id with | some p => p | none => ⟨.done, [], false, []⟩) mixed_ok tab_ok eq_nil sat_nil Tryz.func137 rfl rfl sRefsEq ⟨fun L => rfl, fun L => ⟨rfl, rfl⟩, fun L _ => ⟨rfl, rfl⟩, fun L _ => rfl, rfl, rfl⟩ (N := 26) rfl (by kernel_rfl) (fun L => Nat.le_of_ble_eq_true rfl) ?_
 intro (L : Nat) hp
 (conv => whnf); intro n hn1 hn2; (conv => whnf); intro m hm1 hm2
 repeat' (first | (with_reducible refine Pch.mk ?_; kernel_rfl) | (intro n hr h; replace h := h (by omega) (by omega); subst h) | (intro h; try (exfalso; first | contradiction | exact h True.intro)) | ((conv => whnf) <;> (first | (with_reducible refine WL.mk ?_) | with_reducible refine And.intro ?_ ?_ | with_reducible exact True.intro | exact Eq.refl _)))
 all_goals (first | (first | assumption | contradiction | omega | ((try dsimp only [sRefsEq] at *); omega) | ((conv => whnf); (try show (_ : Nat) ≤ _); (try dsimp only); omega)) | ((conv => whnf); refine' ⟨(() : sRefsEq.δ), _, _, _, _⟩) | ((conv => whnf); refine' ⟨Int, fun | i => ⟨[(0, .one (.c (.slice 51 n))), (1, .one (.c (.slice 51 m))), (5, ci .i64 i)], [], L⟩, fun | i => 0 ≤ i ∧ i ≤ n ∧ n = m, fun | i => (n - i).toNat, ⟨_, _, _⟩, _⟩))
 all_goals (repeat' (first | exact True.intro | exact Eq.refl _ | exact Iff.refl _ | ((conv => whnf) <;> (first | (with_reducible refine WL.mk ?_) | with_reducible refine And.intro ?_ ?_ | with_reducible refine Iff.intro ?_ ?_))))
 all_goals (first | (first | assumption | contradiction | omega | ((try dsimp only [sRefsEq] at *); omega) | ((conv => whnf); (try show (_ : Nat) ≤ _); (try dsimp only); omega)) | (rintro i ⟨hx1, hx2, hx3⟩; (repeat' (first | (with_reducible refine Pch.mk ?_; kernel_rfl) | (intro n hr h; replace h := h (by omega) (by omega); subst h) | (intro h; try (exfalso; first | contradiction | exact h True.intro)) | ((conv => whnf) <;> (first | (with_reducible refine WL.mk ?_) | with_reducible refine And.intro ?_ ?_ | with_reducible exact True.intro | exact Eq.refl _))))))
 all_goals (first | (first | assumption | contradiction | omega | ((try dsimp only [sRefsEq] at *); omega) | ((conv => whnf); (try show (_ : Nat) ≤ _); (try dsimp only); omega)) | ((conv => whnf); first | refine' ⟨(() : sRefsEq.δ), _, _, _, _⟩ | refine' ⟨_, _, _, _⟩))
 all_goals (repeat' (first | exact True.intro | exact Eq.refl _ | exact Iff.refl _ | ((conv => whnf) <;> (first | (with_reducible refine WL.mk ?_) | with_reducible refine And.intro ?_ ?_ | with_reducible refine Iff.intro ?_ ?_))))
 all_goals (first | assumption | contradiction | omega | ((try dsimp only [sRefsEq] at *); omega) | ((conv => whnf); (try show (_ : Nat) ≤ _); (try dsimp only); omega))
def sPairsEq : Fs where
 α := Nat
 δ := Unit
 A := fun | L => [.one (.c (.sl 139 L)), .one (.c (.sl 139 L))]
 B := fun | L => []
 L := fun | L => L
 get := fun avs bx L => some L
 pre := fun | L => True
 rel := fun | L, () => True
 R := fun | L, () => .one (.c .tbool)
 B' := fun | L, () => []
 L' := fun | L, () => L
 reads := []
 tc := []
 st := fun p kk => match p with | L => opnA ([.one (.c (.sl 139 L)), .one (.c (.sl 139 L))]) fun avs0 => opnB ([]) fun bx0 => kk avs0 bx0 (L)
 st_ok := fun L _ h => opnA_imp (fun _ h => Or.inl h) h
 cps := fun p kk => match p with | L => opnB ([]) fun bx0 => kk (.one (.c .tbool)) bx0 (L)
 cur := fun L _ h () _ => (Or.inl (h ))
theorem sat_PairsEq : Sat Tryz.prog tab 138 sPairsEq.spec := by
 refine sat_of ⟨tab, [], [139]⟩ (fun id => match assoc [(6, ⟨.take 0 (.take 1 (.take 2 (.take 4 (.take 5 (.take 6 (.fork 3 (.step 7 (.take 8 (.done))) 7 (.step 3 (.take 8 (.done))))))))), [], false, []⟩)] id with | some p => p | none => ⟨.done, [], false, []⟩) mixed_ok tab_ok eq_pair sat_nil Tryz.func138 rfl rfl sPairsEq ⟨fun L => rfl, fun L => ⟨rfl, rfl⟩, fun L _ => ⟨rfl, rfl⟩, fun L _ => rfl, rfl, rfl⟩ (N := 26) rfl (by kernel_rfl) (fun L => Nat.le_of_ble_eq_true rfl) ?_
 intro (L : Nat) hp
 (conv => whnf); intro n hn1 hn2; (conv => whnf); intro m hm1 hm2
 repeat' (first | (with_reducible refine Pch.mk ?_; kernel_rfl) | (intro n hr h; replace h := h (by omega) (by omega); subst h) | (intro h; try (exfalso; first | contradiction | exact h True.intro)) | ((conv => whnf) <;> (first | (with_reducible refine WL.mk ?_) | with_reducible refine And.intro ?_ ?_ | with_reducible exact True.intro | exact Eq.refl _)))
 all_goals (first | (first | assumption | contradiction | omega | ((try dsimp only [sPairsEq] at *); omega) | ((conv => whnf); (try show (_ : Nat) ≤ _); (try dsimp only); omega)) | ((conv => whnf); refine' ⟨(() : sPairsEq.δ), _, _, _, _⟩) | ((conv => whnf); refine' ⟨Int, fun | i => ⟨[(0, .one (.c (.slice 139 n))), (1, .one (.c (.slice 139 m))), (5, ci .i64 i)], [], L⟩, fun | i => 0 ≤ i ∧ i ≤ n ∧ n = m, fun | i => (n - i).toNat, ⟨_, _, _⟩, _⟩))
 all_goals (repeat' (first | exact True.intro | exact Eq.refl _ | exact Iff.refl _ | ((conv => whnf) <;> (first | (with_reducible refine WL.mk ?_) | with_reducible refine And.intro ?_ ?_ | with_reducible refine Iff.intro ?_ ?_))))
 all_goals (first | (first | assumption | contradiction | omega | ((try dsimp only [sPairsEq] at *); omega) | ((conv => whnf); (try show (_ : Nat) ≤ _); (try dsimp only); omega)) | (rintro i ⟨hx1, hx2, hx3⟩; (repeat' (first | (with_reducible refine Pch.mk ?_; kernel_rfl) | (intro n hr h; replace h := h (by omega) (by omega); subst h) | (intro h; try (exfalso; first | contradiction | exact h True.intro)) | ((conv => whnf) <;> (first | (with_reducible refine WL.mk ?_) | with_reducible refine And.intro ?_ ?_ | with_reducible exact True.intro | exact Eq.refl _))))))
 all_goals (first | (first | assumption | contradiction | omega | ((try dsimp only [sPairsEq] at *); omega) | ((conv => whnf); (try show (_ : Nat) ≤ _); (try dsimp only); omega)) | ((conv => whnf); first | refine' ⟨(() : sPairsEq.δ), _, _, _, _⟩ | refine' ⟨_, _, _, _⟩))
 all_goals (repeat' (first | exact True.intro | exact Eq.refl _ | exact Iff.refl _ | ((conv => whnf) <;> (first | (with_reducible refine WL.mk ?_) | with_reducible refine And.intro ?_ ?_ | with_reducible refine Iff.intro ?_ ?_))))
 all_goals (first | assumption | contradiction | omega | ((try dsimp only [sPairsEq] at *); omega) | ((conv => whnf); (try show (_ : Nat) ≤ _); (try dsimp only); omega))
def skeysOk : Fs where
 α := Nat
 δ := Unit
 A := fun | L => [.one (.c (.sl 139 L))]
 B := fun | L => []
 L := fun | L => L
 get := fun avs bx L => some L
 pre := fun | L => True
 rel := fun | L, () => True
 R := fun | L, () => .one (.c .tbool)
 B' := fun | L, () => []
 L' := fun | L, () => L
 reads := []
 tc := []
 st := fun p kk => match p with | L => opnA ([.one (.c (.sl 139 L))]) fun avs0 => opnB ([]) fun bx0 => kk avs0 bx0 (L)
 st_ok := fun L _ h => opnA_imp (fun _ h => Or.inl h) h
 cps := fun p kk => match p with | L => opnB ([]) fun bx0 => kk (.one (.c .tbool)) bx0 (L)
 cur := fun L _ h () _ => (Or.inl (h ))
theorem sat_keysOk : Sat Tryz.prog tab 131 skeysOk.spec := by
 refine sat_of ⟨tab, [], []⟩ (fun _ => ⟨.done, [], false, []⟩) mixed_ok tab_ok eq_nil sat_nil Tryz.func131 rfl rfl skeysOk ⟨fun L => rfl, fun L => ⟨rfl, rfl⟩, fun L _ => ⟨rfl, rfl⟩, fun L _ => rfl, rfl, rfl⟩ (N := 17) rfl (by kernel_rfl) (fun L => Nat.le_of_ble_eq_true rfl) ?_
 intro (L : Nat) hp
 (conv => whnf); intro n hn1 hn2
 repeat' (first | (with_reducible refine Pch.mk ?_; kernel_rfl) | (intro n hr h; replace h := h (by omega) (by omega); subst h) | (intro h; try (exfalso; first | contradiction | exact h True.intro)) | ((conv => whnf) <;> (first | (with_reducible refine WL.mk ?_) | with_reducible refine And.intro ?_ ?_ | with_reducible exact True.intro | exact Eq.refl _)))
 all_goals (first | (first | assumption | contradiction | omega | ((try dsimp only [skeysOk] at *); omega) | ((conv => whnf); (try show (_ : Nat) ≤ _); (try dsimp only); omega)) | ((conv => whnf); refine' ⟨(() : skeysOk.δ), _, _, _, _⟩) | ((conv => whnf); refine' ⟨Int, fun | i => ⟨[(0, .one (.c (.slice 139 n))), (3, ci .i64 i)], [], L⟩, fun | i => 0 ≤ i ∧ i ≤ n, fun | i => (n - i).toNat, ⟨_, _, _⟩, _⟩))
 all_goals (repeat' (first | exact True.intro | exact Eq.refl _ | exact Iff.refl _ | ((conv => whnf) <;> (first | (with_reducible refine WL.mk ?_) | with_reducible refine And.intro ?_ ?_ | with_reducible refine Iff.intro ?_ ?_))))
 all_goals (first | (first | assumption | contradiction | omega | ((try dsimp only [skeysOk] at *); omega) | ((conv => whnf); (try show (_ : Nat) ≤ _); (try dsimp only); omega)) | (rintro i ⟨hx1, hx2⟩; (repeat' (first | (with_reducible refine Pch.mk ?_; kernel_rfl) | (intro n hr h; replace h := h (by omega) (by omega); subst h) | (intro h; try (exfalso; first | contradiction | exact h True.intro)) | ((conv => whnf) <;> (first | (with_reducible refine WL.mk ?_) | with_reducible refine And.intro ?_ ?_ | with_reducible exact True.intro | exact Eq.refl _))))))
 all_goals (first | (first | assumption | contradiction | omega | ((try dsimp only [skeysOk] at *); omega) | ((conv => whnf); (try show (_ : Nat) ≤ _); (try dsimp only); omega)) | ((conv => whnf); first | refine' ⟨(() : skeysOk.δ), _, _, _, _⟩ | refine' ⟨_, _, _, _⟩))
 all_goals (repeat' (first | exact True.intro | exact Eq.refl _ | exact Iff.refl _ | ((conv => whnf) <;> (first | (with_reducible refine WL.mk ?_) | with_reducible refine And.intro ?_ ?_ | with_reducible refine Iff.intro ?_ ?_))))
 all_goals (first | assumption | contradiction | omega | ((try dsimp only [skeysOk] at *); omega) | ((conv => whnf); (try show (_ : Nat) ≤ _); (try dsimp only); omega))
def sOnly : Fs where
 α := Nat
 δ := Unit
 A := fun | L => [.one (.agg (ndT L))]
 B := fun | L => []
 L := fun | L => L
 get := fun avs bx L => some L
 pre := fun | L => True
 rel := fun | L, () => True
 R := fun | L, () => .one (.agg (ndT L))
 B' := fun | L, () => []
 L' := fun | L, () => L
 reads := []
 tc := []
 st := fun p kk => match p with | L => opnA ([.one (.agg (ndT L))]) fun avs0 => opnB ([]) fun bx0 => kk avs0 bx0 (L)
 st_ok := fun L _ h => opnA_imp (fun _ h => Or.inl h) h
 cps := fun p kk => match p with | L => opnB ([]) fun bx0 => kk (.one (.agg (ndT L))) bx0 (L)
 cur := fun L _ h () _ => (Or.inl (h ))
theorem sat_Only : Sat Tryz.prog tab 129 sOnly.spec := by
 refine sat_of ⟨tab, [], []⟩ (fun _ => ⟨.done, [], false, []⟩) mixed_ok tab_ok eq_nil sat_nil Tryz.func129 rfl rfl sOnly ⟨fun L => rfl, fun L => ⟨rfl, rfl⟩, fun L _ => ⟨rfl, rfl⟩, fun L _ => rfl, rfl, rfl⟩ (N := 86) rfl (by kernel_rfl) (fun L => Nat.le_of_ble_eq_true rfl) ?_
 intro (L : Nat) hp
 repeat' (first | (with_reducible refine Pch.mk ?_; kernel_rfl) | (intro n hr h; replace h := h (by omega) (by omega); subst h) | (intro h; try (exfalso; first | contradiction | exact h True.intro)) | ((conv => whnf) <;> (first | (with_reducible refine WL.mk ?_) | with_reducible refine And.intro ?_ ?_ | with_reducible exact True.intro | exact Eq.refl _)))
 all_goals (first | (first | assumption | contradiction | omega | ((try dsimp only [sOnly] at *); omega) | ((conv => whnf); (try show (_ : Nat) ≤ _); (try dsimp only); omega)) | ((conv => whnf); refine' ⟨(() : sOnly.δ), _, _, _, _⟩))
 all_goals (repeat' (first | exact True.intro | exact Eq.refl _ | exact Iff.refl _ | ((conv => whnf) <;> (first | (with_reducible refine WL.mk ?_) | with_reducible refine And.intro ?_ ?_ | with_reducible refine Iff.intro ?_ ?_))))
 all_goals (first | assumption | contradiction | omega | ((try dsimp only [sOnly] at *); omega) | ((conv => whnf); (try show (_ : Nat) ≤ _); (try dsimp only); omega))
def sNodeEq : Fs where
 α := Nat
 δ := Unit
 A := fun | L => [.one (.agg (ndT L)), .one (.agg (ndT L))]
 B := fun | L => []
 L := fun | L => L
 get := fun avs bx L => some L
 pre := fun | L => True
 rel := fun | L, () => True
 R := fun | L, () => .one (.c .tbool)
 B' := fun | L, () => []
 L' := fun | L, () => L
 reads := []
 tc := []
 st := fun p kk => match p with | L => opnA ([.one (.agg (ndT L)), .one (.agg (ndT L))]) fun avs0 => opnB ([]) fun bx0 => kk avs0 bx0 (L)
 st_ok := fun L _ h => opnA_imp (fun _ h => Or.inl h) h
 cps := fun p kk => match p with | L => opnB ([]) fun bx0 => kk (.one (.c .tbool)) bx0 (L)
 cur := fun L _ h () _ => (Or.inl (h ))
set_option maxHeartbeats 8000000 in
theorem sat_NodeEq : Sat Tryz.prog tab 128 sNodeEq.spec := by
 refine sat_of ⟨tab, [(137, sRefsEq.spec), (138, sPairsEq.spec)], []⟩ (fun _ => ⟨.done, [], false, []⟩) mixed_ok tab_ok eq_nil (satall_cons sat_RefsEq (satall_cons sat_PairsEq sat_nil)) Tryz.func128 rfl rfl sNodeEq ⟨fun L => rfl, fun L => ⟨rfl, rfl⟩, fun L _ => ⟨rfl, rfl⟩, fun L _ => rfl, rfl, rfl⟩ (N := 99) rfl (by kernel_rfl) (fun L => Nat.le_of_ble_eq_true rfl) ?_
 intro (L : Nat) hp
 repeat' (first | (with_reducible refine Pch.mk ?_; kernel_rfl) | (intro n hr h; replace h := h (by omega) (by omega); subst h) | (intro h; try (exfalso; first | contradiction | exact h True.intro)) | ((conv => whnf) <;> (first | (with_reducible refine WL.mk ?_) | with_reducible refine And.intro ?_ ?_ | with_reducible exact True.intro | exact Eq.refl _)))
 all_goals (first | (first | assumption | contradiction | omega | ((try dsimp only [sNodeEq] at *); omega) | ((conv => whnf); (try show (_ : Nat) ≤ _); (try dsimp only); omega)) | ((conv => whnf); refine' ⟨(() : sNodeEq.δ), _, _, _, _⟩))
 all_goals (repeat' (first | exact True.intro | exact Eq.refl _ | exact Iff.refl _ | ((conv => whnf) <;> (first | (with_reducible refine WL.mk ?_) | with_reducible refine And.intro ?_ ?_ | with_reducible refine Iff.intro ?_ ?_))))
 all_goals (first | assumption | contradiction | omega | ((try dsimp only [sNodeEq] at *); omega) | ((conv => whnf); (try show (_ : Nat) ≤ _); (try dsimp only); omega))
noncomputable def sNodeValid : Fs where
 α := Nat × Int × Int × Nat
 δ := Prop
 A := fun | (L, k, bm, nb) => [.one (.agg (ndX L k bm nb))]
 B := fun | (L, k, bm, nb) => []
 L := fun | (L, k, bm, nb) => L
 get := fun avs bx L => match avs with | [.one (.agg cs)] => (match nth cs 0, nth cs 3, slLen (nth cs 4) with | some (.int _ k), some (.int _ bm), some nb => some (L, k, bm, nb) | _, _, _ => none) | _ => none
 pre := fun | (L, k, bm, nb) => nb ≤ L ∧ L ≤ 137438953472
 rel := fun | (L, k, bm, nb), V => V → k = 3 → (nb : Int) = cntP bm 64
 R := fun | (L, k, bm, nb), V => .one (.c (.prop V))
 B' := fun | (L, k, bm, nb), V => []
 L' := fun | (L, k, bm, nb), V => L
 reads := []
 tc := []
 st := fun p kk => match p with | (L, k, bm, nb) => opnA ([.one (.agg (ndX L k bm nb))]) fun avs0 => opnB ([]) fun bx0 => kk avs0 bx0 (L)
 st_ok := fun ⟨L, k, bm, nb⟩ _ h => opnA_imp (fun _ h => Or.inl h) h
 cps := fun p kk => match p with | (L, k, bm, nb) => ∀ V : Prop, (V → k = 3 → (nb : Int) = cntP bm 64) → opnB ([]) fun bx0 => kk (.one (.c (.prop V))) bx0 (L)
 cur := fun ⟨L, k, bm, nb⟩ _ h V h1 => (Or.inl (h V h1))
set_option maxHeartbeats 8000000 in
theorem sat_NodeValid : Sat Tryz.prog tab 122 sNodeValid.spec := by
 refine sat_of ⟨tab, [(129, sOnly.spec), (128, sNodeEq.spec), (130, sCount.spec), (114, sPairsValid.spec), (131, skeysOk.spec)], []⟩ (fun id => match assoc [(1, ⟨.take 0 (.take 1 (.take 2 (.take 3 (.take 4 (.take 5 (.take 6 (.take 7 (.take 8 (.take 9 (.take 10 (.step 11 (.step 12 (.take 13 (.take 14 (.take 15 (.take 16 (.take 17 (.take 18 (.take 19 (.take 20 (.take 21 (.take 22 (.take 23 (.take 24 (.take 25 (.take 26 (.take 27 (.take 28 (.take 29 (.done)))))))))))))))))))))))))))))), [1], false, []⟩), (12, ⟨.take 0 (.take 3 (.take 1 (.take 2 (.take 4 (.step 5 (.take 6 (.take 7 (.done)))))))), [1], false, []⟩)] id with | some p => p | none => ⟨.done, [], false, []⟩) mixed_ok tab_ok eq_nil (satall_cons sat_Only (satall_cons sat_NodeEq (satall_cons sat_Count (satall_cons sat_PairsValid (satall_cons sat_keysOk sat_nil))))) Tryz.func122 rfl rfl sNodeValid ⟨fun ⟨L, k, bm, nb⟩ => rfl, fun ⟨L, k, bm, nb⟩ => ⟨rfl, rfl⟩, fun ⟨L, k, bm, nb⟩ V => ⟨rfl, rfl⟩, fun ⟨L, k, bm, nb⟩ V => rfl, rfl, rfl⟩ (N := 106) rfl (by kernel_rfl) (fun ⟨L, k, bm, nb⟩ => Nat.le_of_ble_eq_true rfl) ?_
 intro p hp
 obtain ⟨L, k, bm, nb⟩ := p
 have hp0 : nb ≤ L ∧ L ≤ 137438953472 := hp
 obtain ⟨hp1, hp2⟩ := hp0
 repeat' (first | (with_reducible refine Pch.mk ?_; kernel_rfl) | (intro n hr h; replace h := h (by omega) (by omega); subst h) | (intro h; try (exfalso; first | contradiction | exact h True.intro)) | ((conv => whnf) <;> (first | (with_reducible refine WL.mk ?_) | with_reducible refine And.intro ?_ ?_ | with_reducible exact True.intro | exact Eq.refl _)))
 all_goals (first | (first | assumption | contradiction | omega | ((try dsimp only [sNodeValid] at *); omega) | ((conv => whnf); (try show (_ : Nat) ≤ _); (try dsimp only); omega) | ((try dsimp only [sNodeValid] at *); intro hv hk; first | exact hv | (exfalso; first | contradiction | omega))) | ((conv => whnf); refine' ⟨(_ : sNodeValid.δ), _, _, _, _⟩) | ((conv => whnf); refine' ⟨Int, fun | i => ⟨[(1, .one (.c (.loc 1 0))), (3, ci .i64 i)], [(1, ndX L k bm nb)], L⟩, fun | i => 0 ≤ i ∧ i ≤ nb, fun | i => (nb - i).toNat, ⟨_, _, _⟩, _⟩))
 all_goals (repeat' (first | exact True.intro | exact Eq.refl _ | exact Iff.refl _ | ((conv => whnf) <;> (first | (with_reducible refine WL.mk ?_) | with_reducible refine And.intro ?_ ?_ | with_reducible refine Iff.intro ?_ ?_))))
 all_goals (first | (first | assumption | contradiction | omega | ((try dsimp only [sNodeValid] at *); omega) | ((conv => whnf); (try show (_ : Nat) ≤ _); (try dsimp only); omega) | ((try dsimp only [sNodeValid] at *); intro hv hk; first | exact hv | (exfalso; first | contradiction | omega))) | (rintro i ⟨hx1, hx2⟩; (repeat' (first | (with_reducible refine Pch.mk ?_; kernel_rfl) | (intro n hr h; replace h := h (by omega) (by omega); subst h) | (intro h; try (exfalso; first | contradiction | exact h True.intro)) | ((conv => whnf) <;> (first | (with_reducible refine WL.mk ?_) | with_reducible refine And.intro ?_ ?_ | with_reducible exact True.intro | exact Eq.refl _))))))
 all_goals (first | (first | assumption | contradiction | omega | ((try dsimp only [sNodeValid] at *); omega) | ((conv => whnf); (try show (_ : Nat) ≤ _); (try dsimp only); omega) | ((try dsimp only [sNodeValid] at *); intro hv hk; first | exact hv | (exfalso; first | contradiction | omega))) | ((conv => whnf); first | refine' ⟨(_ : sNodeValid.δ), _, _, _, _⟩ | refine' ⟨_, _, _, _⟩))
 all_goals (repeat' (first | exact True.intro | exact Eq.refl _ | exact Iff.refl _ | ((conv => whnf) <;> (first | (with_reducible refine WL.mk ?_) | with_reducible refine And.intro ?_ ?_ | with_reducible refine Iff.intro ?_ ?_))))
 all_goals (first | assumption | contradiction | omega | ((try dsimp only [sNodeValid] at *); omega) | ((conv => whnf); (try show (_ : Nat) ≤ _); (try dsimp only); omega) | ((try dsimp only [sNodeValid] at *); intro hv hk; first | exact hv | (exfalso; first | contradiction | omega)))
noncomputable def sisC : Fs where
 α := Nat × Int × Int × Nat
 δ := Prop
 A := fun | (L, k, bm, nb) => [.one (.agg (ndX L k bm nb))]
 B := fun | (L, k, bm, nb) => []
 L := fun | (L, k, bm, nb) => L
 get := fun avs bx L => match avs with | [.one (.agg cs)] => (match nth cs 0, nth cs 3, slLen (nth cs 4) with | some (.int _ k), some (.int _ bm), some nb => some (L, k, bm, nb) | _, _, _ => none) | _ => none
 pre := fun | (L, k, bm, nb) => nb ≤ L ∧ L ≤ 137438953472
 rel := fun | (L, k, bm, nb), V => V → k = 3 ∧ (nb : Int) = cntP bm 64
 R := fun | (L, k, bm, nb), V => .one (.c (.prop V))
 B' := fun | (L, k, bm, nb), V => []
 L' := fun | (L, k, bm, nb), V => L
 reads := []
 tc := []
 st := fun p kk => match p with | (L, k, bm, nb) => opnA ([.one (.agg (ndX L k bm nb))]) fun avs0 => opnB ([]) fun bx0 => kk avs0 bx0 (L)
 st_ok := fun ⟨L, k, bm, nb⟩ _ h => opnA_imp (fun _ h => Or.inl h) h
 cps := fun p kk => match p with | (L, k, bm, nb) => ∀ V : Prop, (V → k = 3 ∧ (nb : Int) = cntP bm 64) → opnB ([]) fun bx0 => kk (.one (.c (.prop V))) bx0 (L)
 cur := fun ⟨L, k, bm, nb⟩ _ h V h1 => (Or.inl (h V h1))
theorem sat_isC : Sat Tryz.prog tab 110 sisC.spec := by
 refine sat_of ⟨tab, [(122, sNodeValid.spec)], []⟩ (fun _ => ⟨.done, [], false, []⟩) mixed_ok tab_ok eq_nil (satall_cons sat_NodeValid sat_nil) Tryz.func110 rfl rfl sisC ⟨fun ⟨L, k, bm, nb⟩ => rfl, fun ⟨L, k, bm, nb⟩ => ⟨rfl, rfl⟩, fun ⟨L, k, bm, nb⟩ V => ⟨rfl, rfl⟩, fun ⟨L, k, bm, nb⟩ V => rfl, rfl, rfl⟩ (N := 10) rfl (by kernel_rfl) (fun ⟨L, k, bm, nb⟩ => Nat.le_of_ble_eq_true rfl) ?_
 intro p hp
 obtain ⟨L, k, bm, nb⟩ := p
 have hp0 : nb ≤ L ∧ L ≤ 137438953472 := hp
 obtain ⟨hp1, hp2⟩ := hp0
 repeat' (first | (with_reducible refine Pch.mk ?_; kernel_rfl) | (intro n hr h; replace h := h (by omega) (by omega); subst h) | (intro h; try (exfalso; first | contradiction | exact h True.intro)) | ((conv => whnf) <;> (first | (with_reducible refine WL.mk ?_) | with_reducible refine And.intro ?_ ?_ | with_reducible exact True.intro | exact Eq.refl _)))
 all_goals (first | (first | assumption | contradiction | omega | exact ⟨by assumption, by assumption⟩ | ((try dsimp only [sisC] at *); omega) | ((conv => whnf); (try show (_ : Nat) ≤ _); (try dsimp only); omega) | ((try dsimp only [sisC] at *); intro hv; first | contradiction | exact ⟨by assumption, by first | assumption | (apply ‹_ → k = 3 → _› <;> assumption) | omega⟩)) | ((conv => whnf); refine' ⟨(_ : sisC.δ), _, _, _, _⟩))
 all_goals (repeat' (first | exact True.intro | exact Eq.refl _ | exact Iff.refl _ | ((conv => whnf) <;> (first | (with_reducible refine WL.mk ?_) | with_reducible refine And.intro ?_ ?_ | with_reducible refine Iff.intro ?_ ?_))))
 all_goals (first | assumption | contradiction | omega | exact ⟨by assumption, by assumption⟩ | ((try dsimp only [sisC] at *); omega) | ((conv => whnf); (try show (_ : Nat) ≤ _); (try dsimp only); omega) | ((try dsimp only [sisC] at *); intro hv; first | contradiction | exact ⟨by assumption, by first | assumption | (apply ‹_ → k = 3 → _› <;> assumption) | omega⟩))
def slistL : Fs where
 α := Nat
 δ := Unit
 A := fun | L => [.one (.agg (ndT L))]
 B := fun | L => []
 L := fun | L => L
 get := fun avs bx L => some L
 pre := fun | L => L ≤ 137438953472
 rel := fun | L, () => True
 R := fun | L, () => .one (.c .tbool)
 B' := fun | L, () => []
 L' := fun | L, () => L
 reads := []
 tc := []
 st := fun p kk => match p with | L => opnA ([.one (.agg (ndT L))]) fun avs0 => opnB ([]) fun bx0 => kk avs0 bx0 (L)
 st_ok := fun L _ h => opnA_imp (fun _ h => Or.inl h) h
 cps := fun p kk => match p with | L => opnB ([]) fun bx0 => kk (.one (.c .tbool)) bx0 (L)
 cur := fun L _ h () _ => (Or.inl (h ))
theorem sat_listL : Sat Tryz.prog tab 124 slistL.spec := by
 refine sat_of ⟨tab, [(122, sNodeValid.spec)], []⟩ (fun _ => ⟨.done, [], false, []⟩) mixed_ok tab_ok eq_nil (satall_cons sat_NodeValid sat_nil) Tryz.func124 rfl rfl slistL ⟨fun L => rfl, fun L => ⟨rfl, rfl⟩, fun L _ => ⟨rfl, rfl⟩, fun L _ => rfl, rfl, rfl⟩ (N := 10) rfl (by kernel_rfl) (fun L => Nat.le_of_ble_eq_true rfl) ?_
 intro (L : Nat) hp
 have hp : L ≤ 137438953472 := hp
 repeat' (first | (with_reducible refine Pch.mk ?_; kernel_rfl) | (intro n hr h; replace h := h (by omega) (by omega); subst h) | (intro h; try (exfalso; first | contradiction | exact h True.intro)) | ((conv => whnf) <;> (first | (with_reducible refine WL.mk ?_) | with_reducible refine And.intro ?_ ?_ | with_reducible exact True.intro | exact Eq.refl _)))
 all_goals (first | (first | assumption | contradiction | omega | ((try dsimp only [slistL] at *); omega) | ((conv => whnf); (try show (_ : Nat) ≤ _); (try dsimp only); omega)) | ((conv => whnf); refine' ⟨(() : slistL.δ), _, _, _, _⟩))
 all_goals (repeat' (first | exact True.intro | exact Eq.refl _ | exact Iff.refl _ | ((conv => whnf) <;> (first | (with_reducible refine WL.mk ?_) | with_reducible refine And.intro ?_ ?_ | with_reducible refine Iff.intro ?_ ?_))))
 all_goals (first | assumption | contradiction | omega | ((try dsimp only [slistL] at *); omega) | ((conv => whnf); (try show (_ : Nat) ≤ _); (try dsimp only); omega))
theorem pos_eq {b i : Int} (h : hasP b i) : posP b i = cntP b i.toNat ∧ cntP b i.toNat < cntP b 64 ∧ 0 ≤ posP b i := by
 have h' := h
 obtain ⟨h1, h2, h3⟩ := h'
 have e : min i 64 = i := by omega
 have hk : hasP b (i.toNat : Int) := by rw [Int.toNat_of_nonneg h1]; exact h
 unfold posP
 rw [e]
 exact ⟨rfl, cnt_lt hk, by omega⟩
noncomputable def sLookup : Fs where
 α := Nat × Int × Int × Nat × Int
 δ := Unit
 A := fun | (L, k, bm, nb, i) => [.one (.agg (ndX L k bm nb)), .one (.c (.int .i64 i))]
 B := fun | (L, k, bm, nb, i) => []
 L := fun | (L, k, bm, nb, i) => L
 get := fun avs bx L => match avs with | [.one (.agg cs), .one (.c (.int _ i))] => (match nth cs 0, nth cs 3, slLen (nth cs 4) with | some (.int _ k), some (.int _ bm), some nb => some (L, k, bm, nb, i) | _, _, _ => none) | _ => none
 pre := fun | (L, k, bm, nb, i) => nb ≤ L ∧ L ≤ 137438953472
 rel := fun | (L, k, bm, nb, i), () => True
 R := fun | (L, k, bm, nb, i), () => .tup [.c (.tint .i64), .c .tbool]
 B' := fun | (L, k, bm, nb, i), () => []
 L' := fun | (L, k, bm, nb, i), () => L
 reads := []
 tc := []
 st := fun p kk => match p with | (L, k, bm, nb, i) => opnA ([.one (.agg (ndX L k bm nb)), .one (.c (.int .i64 i))]) fun avs0 => opnB ([]) fun bx0 => kk avs0 bx0 (L)
 st_ok := fun ⟨L, k, bm, nb, i⟩ _ h => opnA_imp (fun _ h => Or.inl h) h
 cps := fun p kk => match p with | (L, k, bm, nb, i) => opnB ([]) fun bx0 => kk (.tup [.c (.tint .i64), .c .tbool]) bx0 (L)
 cur := fun ⟨L, k, bm, nb, i⟩ _ h () _ => (Or.inl (h ))
set_option maxHeartbeats 8000000 in
theorem sat_Lookup : Sat Tryz.prog tab 86 sLookup.spec := by
 refine sat_of ⟨tab, [(110, sisC.spec), (103, sHas.spec), (111, sPosition.spec)], []⟩ (fun id => match assoc [(3, ⟨.take 0 (.take 2 (.take 4 (.take 1 (.take 3 (.step 5 (.take 6 (.step 7 (.take 8 (.take 9 (.done)))))))))), [2], false, []⟩)] id with | some p => p | none => ⟨.done, [], false, []⟩) mixed_ok tab_ok eq_nil (satall_cons sat_isC (satall_cons sat_Has (satall_cons sat_Position sat_nil))) Tryz.func86 rfl rfl sLookup ⟨fun ⟨L, k, bm, nb, i⟩ => rfl, fun ⟨L, k, bm, nb, i⟩ => ⟨rfl, rfl⟩, fun ⟨L, k, bm, nb, i⟩ _ => ⟨rfl, rfl⟩, fun ⟨L, k, bm, nb, i⟩ _ => rfl, rfl, rfl⟩ (N := 24) rfl (by kernel_rfl) (fun ⟨L, k, bm, nb, i⟩ => Nat.le_of_ble_eq_true rfl) ?_
 intro p hp
 obtain ⟨L, k, bm, nb, i⟩ := p
 have hp0 : nb ≤ L ∧ L ≤ 137438953472 := hp
 obtain ⟨hp1, hp2⟩ := hp0
 repeat' (first | (with_reducible refine Pch.mk ?_; kernel_rfl) | (intro n hr h; replace h := h (by omega) (by omega); subst h) | (intro h; try (exfalso; first | contradiction | exact h True.intro)) | ((conv => whnf) <;> (first | (with_reducible refine WL.mk ?_) | with_reducible refine And.intro ?_ ?_ | with_reducible exact True.intro | exact Eq.refl _)))
 all_goals (first | (first | assumption | contradiction | omega | ((try dsimp only [sLookup] at *); omega) | ((conv => whnf); (try show (_ : Nat) ≤ _); (try dsimp only); omega) | ((try dsimp only [sLookup] at *); have hh := pos_eq (Classical.not_not.1 (‹¬ ¬ hasP _ _›)); have hg := (‹_ → k = 3 ∧ _› (Classical.not_not.1 (by assumption))).2; omega)) | ((conv => whnf); refine' ⟨(() : sLookup.δ), _, _, _, _⟩))
 all_goals (repeat' (first | exact True.intro | exact Eq.refl _ | exact Iff.refl _ | ((conv => whnf) <;> (first | (with_reducible refine WL.mk ?_) | with_reducible refine And.intro ?_ ?_ | with_reducible refine Iff.intro ?_ ?_))))
 all_goals (first | assumption | contradiction | omega | ((try dsimp only [sLookup] at *); omega) | ((conv => whnf); (try show (_ : Nat) ≤ _); (try dsimp only); omega) | ((try dsimp only [sLookup] at *); have hh := pos_eq (Classical.not_not.1 (‹¬ ¬ hasP _ _›)); have hg := (‹_ → k = 3 ∧ _› (Classical.not_not.1 (by assumption))).2; omega))
end Tv
end Go.Proofs.YtpabdmcbahmjnaaGreat
