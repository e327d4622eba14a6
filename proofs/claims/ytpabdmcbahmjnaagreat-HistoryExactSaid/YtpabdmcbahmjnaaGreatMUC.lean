/- Part of a proof: U6 Hash U7. -/
import Derived.Test.YtpabdmcbahmjnaaGreatMUB
import Derived.Test.YtpabdmcbahmjnaaGreatProg
import Derived.Test.YtpabdmcbahmjnaaGreatMTB
import Derived.WalkKit
import Derived.WalkLawsBesides
import Derived.WalkSpells
import Derived.Outline
import Derived.Lib.Hide
namespace Go.Proofs.YtpabdmcbahmjnaaGreat
namespace Tv
open Go Go.RowKit
set_option linter.unusedSimpArgs false
set_option linter.unusedVariables false
def ndB (L nb : Nat) : List CV := [.tint .i64, .tint .i64, .tint .i64, .tint .u64, .slice 51 nb, .tint .u64, .str, .tint .u64, .sl 139 L, .tint .i64, .tint .i64, .tint .i64, .tint .i64, .tint .i64]
def sbuild : Fs where
 α := Nat
 δ := Unit
 A := fun | L => [.one (.agg (ndT L)), .one (.c (.tint .i64)), .one (.c (.tint .i64))]
 B := fun | L => []
 L := fun | L => L
 get := fun avs bx L => some L
 pre := fun | L => 64 ≤ L ∧ L ≤ 137438952448
 rel := fun | L, () => True
 R := fun | L, () => .one (.agg (ndT L))
 B' := fun | L, () => []
 L' := fun | L, () => L
 reads := []
 tc := []
 st := fun p kk => match p with | L => opnA ([.one (.agg (ndT L)), .one (.c (.tint .i64)), .one (.c (.tint .i64))]) fun avs0 => opnB ([]) fun bx0 => kk avs0 bx0 (L)
 st_ok := fun L _ h => opnA_imp (fun _ h => Or.inl h) h
 cps := fun p kk => match p with | L => opnB ([]) fun bx0 => kk (.one (.agg (ndT L))) bx0 (L)
 cur := fun L _ h () _ => (Or.inl (h ))
set_option maxHeartbeats 8000000 in
theorem sat_build : Sat Tryz.prog tab 112 sbuild.spec := by
 refine sat_of ⟨tab, [(86, sLookup.spec), (123, sWith.spec)], []⟩ (fun id => match assoc [(9, ⟨.take 0 (.take 2 (.take 4 (.take 6 (.take 1 (.take 5 (.fork 3 (.take 9 (.step 7 (.step 8 (.brk (.step 10 (.take 11 (.step 12 (.done)))))))) 7 (.step 3 (.take 9 (.step 8 (.brk (.step 10 (.take 11 (.step 12 (.done)))))))))))))), [7], false, [10, 12]⟩)] id with | some p => p | none => ⟨.done, [], false, []⟩) mixed_ok tab_ok eq_nil (satall_cons sat_Lookup (satall_cons sat_With sat_nil)) Tryz.func112 rfl rfl sbuild ⟨fun L => rfl, fun L => ⟨rfl, rfl⟩, fun L _ => ⟨rfl, rfl⟩, fun L _ => rfl, rfl, rfl⟩ (N := 41) rfl (by kernel_rfl) (fun L => Nat.le_of_ble_eq_true rfl) ?_
 intro (L : Nat) hp
 have hp0 : 64 ≤ L ∧ L ≤ 137438952448 := hp
 obtain ⟨hp1, hp2⟩ := hp0
 repeat' (first | (with_reducible refine Pch.mk ?_; kernel_rfl) | (intro n hr h; replace h := h (by omega) (by omega); subst h) | (intro h; try (exfalso; first | contradiction | exact h True.intro)) | ((conv => whnf) <;> (first | (with_reducible refine WL.mk ?_) | with_reducible refine And.intro ?_ ?_ | with_reducible exact True.intro | exact Eq.refl _)))
 all_goals (first | (first | assumption | contradiction | omega | ((try dsimp only [sbuild] at *); omega) | ((conv => whnf); (try show (_ : Nat) ≤ _); (try dsimp only); omega)) | ((conv => whnf); refine' ⟨(() : sbuild.δ), _, _, _, _⟩) | ((conv => whnf); refine' ⟨Int × Nat, fun | (i, r) => ⟨[(1, .one (.c (.tint .i64))), (2, .one (.c (.tint .i64))), (3, .one (.c (.loc 3 0))), (6, .one (.c (.loc 6 0))), (7, .one (.c (.loc 7 0))), (8, ci .i64 i)], [(3, ndT L), (6, ndT L), (7, ndB L r)], L⟩, fun | (i, r) => 0 ≤ i ∧ i ≤ 64 ∧ (r : Int) ≤ i, fun | (i, r) => (64 - i).toNat, ⟨(_, _), _, _⟩, _⟩))
 all_goals (repeat' (first | exact True.intro | exact Eq.refl _ | exact Iff.refl _ | ((conv => whnf) <;> (first | (with_reducible refine WL.mk ?_) | with_reducible refine And.intro ?_ ?_ | with_reducible refine Iff.intro ?_ ?_))))
 all_goals (first | (first | assumption | contradiction | omega | ((try dsimp only [sbuild] at *); omega) | ((conv => whnf); (try show (_ : Nat) ≤ _); (try dsimp only); omega)) | (rintro ⟨i, r⟩ ⟨hx1, hx2, hx3⟩; (repeat' (first | (with_reducible refine Pch.mk ?_; kernel_rfl) | (intro n hr h; replace h := h (by omega) (by omega); subst h) | (intro h; try (exfalso; first | contradiction | exact h True.intro)) | ((conv => whnf) <;> (first | (with_reducible refine WL.mk ?_) | with_reducible refine And.intro ?_ ?_ | with_reducible exact True.intro | exact Eq.refl _))))))
 all_goals (first | (first | assumption | contradiction | omega | ((try dsimp only [sbuild] at *); omega) | ((conv => whnf); (try show (_ : Nat) ≤ _); (try dsimp only); omega)) | ((conv => whnf); first | refine' ⟨(() : sbuild.δ), _, _, _, _⟩ | refine' ⟨(_, _), _, _, _⟩))
 all_goals (repeat' (first | exact True.intro | exact Eq.refl _ | exact Iff.refl _ | ((conv => whnf) <;> (first | (with_reducible refine WL.mk ?_) | with_reducible refine And.intro ?_ ?_ | with_reducible refine Iff.intro ?_ ?_))))
 all_goals (first | assumption | contradiction | omega | ((try dsimp only [sbuild] at *); omega) | ((conv => whnf); (try show (_ : Nat) ≤ _); (try dsimp only); omega))
def sInserted : Fs where
 α := Nat
 δ := Unit
 A := fun | L => [.one (.agg (ndT L)), .one (.c (.tint .i64)), .one (.c (.tint .i64))]
 B := fun | L => []
 L := fun | L => L
 get := fun avs bx L => some L
 pre := fun | L => 64 ≤ L ∧ L ≤ 137438952448
 rel := fun | L, () => True
 R := fun | L, () => .tup [.agg (ndT L), .c .tbool]
 B' := fun | L, () => []
 L' := fun | L, () => L
 reads := []
 tc := []
 st := fun p kk => match p with | L => opnA ([.one (.agg (ndT L)), .one (.c (.tint .i64)), .one (.c (.tint .i64))]) fun avs0 => opnB ([]) fun bx0 => kk avs0 bx0 (L)
 st_ok := fun L _ h => opnA_imp (fun _ h => Or.inl h) h
 cps := fun p kk => match p with | L => opnB ([]) fun bx0 => kk (.tup [.agg (ndT L), .c .tbool]) bx0 (L)
 cur := fun L _ h () _ => (Or.inl (h ))
set_option maxHeartbeats 8000000 in
theorem sat_Inserted : Sat Tryz.prog tab 118 sInserted.spec := by
 refine sat_of ⟨tab, [(86, sLookup.spec), (110, sisC.spec), (112, sbuild.spec)], []⟩ (fun _ => ⟨.done, [], false, []⟩) mixed_ok tab_ok eq_nil (satall_cons sat_Lookup (satall_cons sat_isC (satall_cons sat_build sat_nil))) Tryz.func118 rfl rfl sInserted ⟨fun L => rfl, fun L => ⟨rfl, rfl⟩, fun L _ => ⟨rfl, rfl⟩, fun L _ => rfl, rfl, rfl⟩ (N := 39) rfl (by kernel_rfl) (fun L => Nat.le_of_ble_eq_true rfl) ?_
 intro (L : Nat) hp
 have hp0 : 64 ≤ L ∧ L ≤ 137438952448 := hp
 obtain ⟨hp1, hp2⟩ := hp0
 repeat' (first | (with_reducible refine Pch.mk ?_; kernel_rfl) | (intro n hr h; replace h := h (by omega) (by omega); subst h) | (intro h; try (exfalso; first | contradiction | exact h True.intro)) | ((conv => whnf) <;> (first | (with_reducible refine WL.mk ?_) | with_reducible refine And.intro ?_ ?_ | with_reducible exact True.intro | exact Eq.refl _)))
 all_goals (first | (first | assumption | contradiction | omega | ((try dsimp only [sInserted] at *); omega) | ((conv => whnf); (try show (_ : Nat) ≤ _); (try dsimp only); omega)) | ((conv => whnf); refine' ⟨(() : sInserted.δ), _, _, _, _⟩))
 all_goals (repeat' (first | exact True.intro | exact Eq.refl _ | exact Iff.refl _ | ((conv => whnf) <;> (first | (with_reducible refine WL.mk ?_) | with_reducible refine And.intro ?_ ?_ | with_reducible refine Iff.intro ?_ ?_))))
 all_goals (first | assumption | contradiction | omega | ((try dsimp only [sInserted] at *); omega) | ((conv => whnf); (try show (_ : Nat) ≤ _); (try dsimp only); omega))
def sUpdated : Fs where
 α := Nat
 δ := Unit
 A := fun | L => [.one (.agg (ndT L)), .one (.c (.tint .i64)), .one (.c (.tint .i64))]
 B := fun | L => []
 L := fun | L => L
 get := fun avs bx L => some L
 pre := fun | L => 64 ≤ L ∧ L ≤ 137438952448
 rel := fun | L, () => True
 R := fun | L, () => .tup [.agg (ndT L), .c .tbool]
 B' := fun | L, () => []
 L' := fun | L, () => L
 reads := []
 tc := []
 st := fun p kk => match p with | L => opnA ([.one (.agg (ndT L)), .one (.c (.tint .i64)), .one (.c (.tint .i64))]) fun avs0 => opnB ([]) fun bx0 => kk avs0 bx0 (L)
 st_ok := fun L _ h => opnA_imp (fun _ h => Or.inl h) h
 cps := fun p kk => match p with | L => opnB ([]) fun bx0 => kk (.tup [.agg (ndT L), .c .tbool]) bx0 (L)
 cur := fun L _ h () _ => (Or.inl (h ))
set_option maxHeartbeats 8000000 in
theorem sat_Updated : Sat Tryz.prog tab 90 sUpdated.spec := by
 refine sat_of ⟨tab, [(86, sLookup.spec), (112, sbuild.spec)], []⟩ (fun _ => ⟨.done, [], false, []⟩) mixed_ok tab_ok eq_nil (satall_cons sat_Lookup (satall_cons sat_build sat_nil)) Tryz.func90 rfl rfl sUpdated ⟨fun L => rfl, fun L => ⟨rfl, rfl⟩, fun L _ => ⟨rfl, rfl⟩, fun L _ => rfl, rfl, rfl⟩ (N := 27) rfl (by kernel_rfl) (fun L => Nat.le_of_ble_eq_true rfl) ?_
 intro (L : Nat) hp
 have hp0 : 64 ≤ L ∧ L ≤ 137438952448 := hp
 obtain ⟨hp1, hp2⟩ := hp0
 repeat' (first | (with_reducible refine Pch.mk ?_; kernel_rfl) | (intro n hr h; replace h := h (by omega) (by omega); subst h) | (intro h; try (exfalso; first | contradiction | exact h True.intro)) | ((conv => whnf) <;> (first | (with_reducible refine WL.mk ?_) | with_reducible refine And.intro ?_ ?_ | with_reducible exact True.intro | exact Eq.refl _)))
 all_goals (first | (first | assumption | contradiction | omega | ((try dsimp only [sUpdated] at *); omega) | ((conv => whnf); (try show (_ : Nat) ≤ _); (try dsimp only); omega)) | ((conv => whnf); refine' ⟨(() : sUpdated.δ), _, _, _, _⟩))
 all_goals (repeat' (first | exact True.intro | exact Eq.refl _ | exact Iff.refl _ | ((conv => whnf) <;> (first | (with_reducible refine WL.mk ?_) | with_reducible refine And.intro ?_ ?_ | with_reducible refine Iff.intro ?_ ?_))))
 all_goals (first | assumption | contradiction | omega | ((try dsimp only [sUpdated] at *); omega) | ((conv => whnf); (try show (_ : Nat) ≤ _); (try dsimp only); omega))
def sRemoved : Fs where
 α := Nat
 δ := Unit
 A := fun | L => [.one (.agg (ndT L)), .one (.c (.tint .i64))]
 B := fun | L => []
 L := fun | L => L
 get := fun avs bx L => some L
 pre := fun | L => 64 ≤ L ∧ L ≤ 137438952448
 rel := fun | L, () => True
 R := fun | L, () => .tup [.agg (ndT L), .c .tbool]
 B' := fun | L, () => []
 L' := fun | L, () => L
 reads := []
 tc := []
 st := fun p kk => match p with | L => opnA ([.one (.agg (ndT L)), .one (.c (.tint .i64))]) fun avs0 => opnB ([]) fun bx0 => kk avs0 bx0 (L)
 st_ok := fun L _ h => opnA_imp (fun _ h => Or.inl h) h
 cps := fun p kk => match p with | L => opnB ([]) fun bx0 => kk (.tup [.agg (ndT L), .c .tbool]) bx0 (L)
 cur := fun L _ h () _ => (Or.inl (h ))
set_option maxHeartbeats 8000000 in
theorem sat_Removed : Sat Tryz.prog tab 121 sRemoved.spec := by
 refine sat_of ⟨tab, [(86, sLookup.spec), (112, sbuild.spec)], []⟩ (fun _ => ⟨.done, [], false, []⟩) mixed_ok tab_ok eq_nil (satall_cons sat_Lookup (satall_cons sat_build sat_nil)) Tryz.func121 rfl rfl sRemoved ⟨fun L => rfl, fun L => ⟨rfl, rfl⟩, fun L _ => ⟨rfl, rfl⟩, fun L _ => rfl, rfl, rfl⟩ (N := 20) rfl (by kernel_rfl) (fun L => Nat.le_of_ble_eq_true rfl) ?_
 intro (L : Nat) hp
 have hp0 : 64 ≤ L ∧ L ≤ 137438952448 := hp
 obtain ⟨hp1, hp2⟩ := hp0
 repeat' (first | (with_reducible refine Pch.mk ?_; kernel_rfl) | (intro n hr h; replace h := h (by omega) (by omega); subst h) | (intro h; try (exfalso; first | contradiction | exact h True.intro)) | ((conv => whnf) <;> (first | (with_reducible refine WL.mk ?_) | with_reducible refine And.intro ?_ ?_ | with_reducible exact True.intro | exact Eq.refl _)))
 all_goals (first | (first | assumption | contradiction | omega | ((try dsimp only [sRemoved] at *); omega) | ((conv => whnf); (try show (_ : Nat) ≤ _); (try dsimp only); omega)) | ((conv => whnf); refine' ⟨(() : sRemoved.δ), _, _, _, _⟩))
 all_goals (repeat' (first | exact True.intro | exact Eq.refl _ | exact Iff.refl _ | ((conv => whnf) <;> (first | (with_reducible refine WL.mk ?_) | with_reducible refine And.intro ?_ ?_ | with_reducible refine Iff.intro ?_ ?_))))
 all_goals (first | assumption | contradiction | omega | ((try dsimp only [sRemoved] at *); omega) | ((conv => whnf); (try show (_ : Nat) ≤ _); (try dsimp only); omega))
def sSole : Fs where
 α := Nat
 δ := Unit
 A := fun | L => [.one (.agg (ndT L))]
 B := fun | L => []
 L := fun | L => L
 get := fun avs bx L => some L
 pre := fun | L => 64 ≤ L ∧ L ≤ 137438952448
 rel := fun | L, () => True
 R := fun | L, () => .tup [.c (.tint .i64), .c .tbool]
 B' := fun | L, () => []
 L' := fun | L, () => L
 reads := []
 tc := []
 st := fun p kk => match p with | L => opnA ([.one (.agg (ndT L))]) fun avs0 => opnB ([]) fun bx0 => kk avs0 bx0 (L)
 st_ok := fun L _ h => opnA_imp (fun _ h => Or.inl h) h
 cps := fun p kk => match p with | L => opnB ([]) fun bx0 => kk (.tup [.c (.tint .i64), .c .tbool]) bx0 (L)
 cur := fun L _ h () _ => (Or.inl (h ))
theorem sat_Sole : Sat Tryz.prog tab 113 sSole.spec := by
 refine sat_of ⟨tab, [(110, sisC.spec)], []⟩ (fun _ => ⟨.done, [], false, []⟩) mixed_ok tab_ok eq_nil (satall_cons sat_isC sat_nil) Tryz.func113 rfl rfl sSole ⟨fun L => rfl, fun L => ⟨rfl, rfl⟩, fun L _ => ⟨rfl, rfl⟩, fun L _ => rfl, rfl, rfl⟩ (N := 17) rfl (by kernel_rfl) (fun L => Nat.le_of_ble_eq_true rfl) ?_
 intro (L : Nat) hp
 have hp0 : 64 ≤ L ∧ L ≤ 137438952448 := hp
 obtain ⟨hp1, hp2⟩ := hp0
 repeat' (first | (with_reducible refine Pch.mk ?_; kernel_rfl) | (intro n hr h; replace h := h (by omega) (by omega); subst h) | (intro h; try (exfalso; first | contradiction | exact h True.intro)) | ((conv => whnf) <;> (first | (with_reducible refine WL.mk ?_) | with_reducible refine And.intro ?_ ?_ | with_reducible exact True.intro | exact Eq.refl _)))
 all_goals (first | (first | assumption | contradiction | omega | ((try dsimp only [sSole] at *); omega) | ((conv => whnf); (try show (_ : Nat) ≤ _); (try dsimp only); omega)) | ((conv => whnf); refine' ⟨(() : sSole.δ), _, _, _, _⟩))
 all_goals (repeat' (first | exact True.intro | exact Eq.refl _ | exact Iff.refl _ | ((conv => whnf) <;> (first | (with_reducible refine WL.mk ?_) | with_reducible refine And.intro ?_ ?_ | with_reducible refine Iff.intro ?_ ?_))))
 all_goals (first | assumption | contradiction | omega | ((try dsimp only [sSole] at *); omega) | ((conv => whnf); (try show (_ : Nat) ≤ _); (try dsimp only); omega))
def sContracted : Fs where
 α := Nat
 δ := Unit
 A := fun | L => [.one (.agg (ndT L)), .one (.c (.tint .i64)), .one (.agg (ndT L))]
 B := fun | L => []
 L := fun | L => L
 get := fun avs bx L => some L
 pre := fun | L => 64 ≤ L ∧ L ≤ 137438952448
 rel := fun | L, () => True
 R := fun | L, () => .one (.agg (ndT L))
 B' := fun | L, () => []
 L' := fun | L, () => L
 reads := []
 tc := []
 st := fun p kk => match p with | L => opnA ([.one (.agg (ndT L)), .one (.c (.tint .i64)), .one (.agg (ndT L))]) fun avs0 => opnB ([]) fun bx0 => kk avs0 bx0 (L)
 st_ok := fun L _ h => opnA_imp (fun _ h => Or.inl h) h
 cps := fun p kk => match p with | L => opnB ([]) fun bx0 => kk (.one (.agg (ndT L))) bx0 (L)
 cur := fun L _ h () _ => (Or.inl (h ))
theorem sat_Contracted : Sat Tryz.prog tab 91 sContracted.spec := by
 refine sat_of ⟨tab, [(113, sSole.spec)], []⟩ (fun _ => ⟨.done, [], false, []⟩) mixed_ok tab_ok eq_nil (satall_cons sat_Sole sat_nil) Tryz.func91 rfl rfl sContracted ⟨fun L => rfl, fun L => ⟨rfl, rfl⟩, fun L _ => ⟨rfl, rfl⟩, fun L _ => rfl, rfl, rfl⟩ (N := 32) rfl (by kernel_rfl) (fun L => Nat.le_of_ble_eq_true rfl) ?_
 intro (L : Nat) hp
 have hp0 : 64 ≤ L ∧ L ≤ 137438952448 := hp
 obtain ⟨hp1, hp2⟩ := hp0
 repeat' (first | (with_reducible refine Pch.mk ?_; kernel_rfl) | (intro n hr h; replace h := h (by omega) (by omega); subst h) | (intro h; try (exfalso; first | contradiction | exact h True.intro)) | ((conv => whnf) <;> (first | (with_reducible refine WL.mk ?_) | with_reducible refine And.intro ?_ ?_ | with_reducible exact True.intro | exact Eq.refl _)))
 all_goals (first | (first | assumption | contradiction | omega | ((try dsimp only [sContracted] at *); omega) | ((conv => whnf); (try show (_ : Nat) ≤ _); (try dsimp only); omega)) | ((conv => whnf); refine' ⟨(() : sContracted.δ), _, _, _, _⟩))
 all_goals (repeat' (first | exact True.intro | exact Eq.refl _ | exact Iff.refl _ | ((conv => whnf) <;> (first | (with_reducible refine WL.mk ?_) | with_reducible refine And.intro ?_ ?_ | with_reducible refine Iff.intro ?_ ?_))))
 all_goals (first | assumption | contradiction | omega | ((try dsimp only [sContracted] at *); omega) | ((conv => whnf); (try show (_ : Nat) ≤ _); (try dsimp only); omega))
def sUntombed : Fs where
 α := Nat
 δ := Unit
 A := fun | L => [.one (.agg (ndT L))]
 B := fun | L => []
 L := fun | L => L
 get := fun avs bx L => some L
 pre := fun | L => 64 ≤ L ∧ L ≤ 137438952448
 rel := fun | L, () => True
 R := fun | L, () => .tup [.agg (ndT L), .c .tbool]
 B' := fun | L, () => []
 L' := fun | L, () => L
 reads := []
 tc := []
 st := fun p kk => match p with | L => opnA ([.one (.agg (ndT L))]) fun avs0 => opnB ([]) fun bx0 => kk avs0 bx0 (L)
 st_ok := fun L _ h => opnA_imp (fun _ h => Or.inl h) h
 cps := fun p kk => match p with | L => opnB ([]) fun bx0 => kk (.tup [.agg (ndT L), .c .tbool]) bx0 (L)
 cur := fun L _ h () _ => (Or.inl (h ))
theorem sat_Untombed : Sat Tryz.prog tab 89 sUntombed.spec := by
 refine sat_of ⟨tab, [], []⟩ (fun _ => ⟨.done, [], false, []⟩) mixed_ok tab_ok eq_nil sat_nil Tryz.func89 rfl rfl sUntombed ⟨fun L => rfl, fun L => ⟨rfl, rfl⟩, fun L _ => ⟨rfl, rfl⟩, fun L _ => rfl, rfl, rfl⟩ (N := 15) rfl (by kernel_rfl) (fun L => Nat.le_of_ble_eq_true rfl) ?_
 intro (L : Nat) hp
 have hp0 : 64 ≤ L ∧ L ≤ 137438952448 := hp
 obtain ⟨hp1, hp2⟩ := hp0
 repeat' (first | (with_reducible refine Pch.mk ?_; kernel_rfl) | (intro n hr h; replace h := h (by omega) (by omega); subst h) | (intro h; try (exfalso; first | contradiction | exact h True.intro)) | ((conv => whnf) <;> (first | (with_reducible refine WL.mk ?_) | with_reducible refine And.intro ?_ ?_ | with_reducible exact True.intro | exact Eq.refl _)))
 all_goals (first | (first | assumption | contradiction | omega | ((try dsimp only [sUntombed] at *); omega) | ((conv => whnf); (try show (_ : Nat) ≤ _); (try dsimp only); omega)) | ((conv => whnf); refine' ⟨(() : sUntombed.δ), _, _, _, _⟩))
 all_goals (repeat' (first | exact True.intro | exact Eq.refl _ | exact Iff.refl _ | ((conv => whnf) <;> (first | (with_reducible refine WL.mk ?_) | with_reducible refine And.intro ?_ ?_ | with_reducible refine Iff.intro ?_ ?_))))
 all_goals (first | assumption | contradiction | omega | ((try dsimp only [sUntombed] at *); omega) | ((conv => whnf); (try show (_ : Nat) ≤ _); (try dsimp only); omega))
def sGrown : Fs where
 α := Nat
 δ := Nat
 A := fun | L => [.one (.agg (ndT L)), .one (.c .str), .one (.c (.tint .u64))]
 B := fun | L => []
 L := fun | L => L
 get := fun avs bx L => some L
 pre := fun | L => 64 ≤ L ∧ L ≤ 137438952448
 rel := fun | L, L2 => L ≤ L2 ∧ L2 ≤ L + 1
 R := fun | L, L2 => .tup [.agg (ndT L2), .c .tbool]
 B' := fun | L, L2 => []
 L' := fun | L, L2 => L2
 reads := []
 tc := []
 st := fun p kk => match p with | L => opnA ([.one (.agg (ndT L)), .one (.c .str), .one (.c (.tint .u64))]) fun avs0 => opnB ([]) fun bx0 => kk avs0 bx0 (L)
 st_ok := fun L _ h => opnA_imp (fun _ h => Or.inl h) h
 cps := fun p kk => match p with | L => ∀ L2 : Nat, (L ≤ L2) → (L2 ≤ L + 1) → opnB ([]) fun bx0 => kk (.tup [.agg (ndT L2), .c .tbool]) bx0 (L2)
 cur := fun L _ h L2 ⟨h1, h2⟩ => (Or.inl (h L2 h1 h2))
theorem sat_Grown : Sat Tryz.prog tab 116 sGrown.spec := by
 refine sat_of ⟨tab, [(124, slistL.spec), (125, sPut.spec)], []⟩ (fun id => match assoc [(3, ⟨.take 0 (.take 2 (.take 4 (.take 5 (.take 1 (.take 3 (.step 6 (.take 7 (.step 8 (.take 9 (.done)))))))))), [3], false, []⟩)] id with | some p => p | none => ⟨.done, [], false, []⟩) mixed_ok tab_ok eq_nil (satall_cons sat_listL (satall_cons sat_Put sat_nil)) Tryz.func116 rfl rfl sGrown ⟨fun L => rfl, fun L => ⟨rfl, rfl⟩, fun L L2 => ⟨rfl, rfl⟩, fun L L2 => rfl, rfl, rfl⟩ (N := 25) rfl (by kernel_rfl) (fun L => Nat.le_of_ble_eq_true rfl) ?_
 intro (L : Nat) hp
 have hp0 : 64 ≤ L ∧ L ≤ 137438952448 := hp
 obtain ⟨hp1, hp2⟩ := hp0
 repeat' (first | (with_reducible refine Pch.mk ?_; kernel_rfl) | (intro n hr h; replace h := h (by omega) (by omega); subst h) | (intro h; try (exfalso; first | contradiction | exact h True.intro)) | ((conv => whnf) <;> (first | (with_reducible refine WL.mk ?_) | with_reducible refine And.intro ?_ ?_ | with_reducible exact True.intro | exact Eq.refl _)))
 all_goals (first | (first | assumption | contradiction | omega | ((try dsimp only [sGrown] at *); omega) | ((conv => whnf); (try show (_ : Nat) ≤ _); (try dsimp only); omega)) | ((conv => whnf); refine' ⟨(_ : sGrown.δ), _, _, _, _⟩))
 all_goals (repeat' (first | exact True.intro | exact Eq.refl _ | exact Iff.refl _ | ((conv => whnf) <;> (first | (with_reducible refine WL.mk ?_) | with_reducible refine And.intro ?_ ?_ | with_reducible refine Iff.intro ?_ ?_))))
 all_goals (first | assumption | contradiction | omega | ((try dsimp only [sGrown] at *); omega) | ((conv => whnf); (try show (_ : Nat) ≤ _); (try dsimp only); omega))
def sShrunk : Fs where
 α := Nat
 δ := Unit
 A := fun | L => [.one (.agg (ndT L)), .one (.c .str)]
 B := fun | L => []
 L := fun | L => L
 get := fun avs bx L => some L
 pre := fun | L => 64 ≤ L ∧ L ≤ 137438952448
 rel := fun | L, () => True
 R := fun | L, () => .tup [.agg (ndT L), .c .tbool]
 B' := fun | L, () => []
 L' := fun | L, () => L
 reads := []
 tc := []
 st := fun p kk => match p with | L => opnA ([.one (.agg (ndT L)), .one (.c .str)]) fun avs0 => opnB ([]) fun bx0 => kk avs0 bx0 (L)
 st_ok := fun L _ h => opnA_imp (fun _ h => Or.inl h) h
 cps := fun p kk => match p with | L => opnB ([]) fun bx0 => kk (.tup [.agg (ndT L), .c .tbool]) bx0 (L)
 cur := fun L _ h () _ => (Or.inl (h ))
set_option maxHeartbeats 8000000 in
theorem sat_Shrunk : Sat Tryz.prog tab 120 sShrunk.spec := by
 refine sat_of ⟨tab, [(94, sFind.spec), (124, slistL.spec), (127, sDrop.spec)], []⟩ (fun id => match assoc [(6, ⟨.take 0 (.take 2 (.take 3 (.take 4 (.take 6 (.take 7 (.take 8 (.take 1 (.fork 5 (.step 9 (.take 10 (.step 11 (.take 12 (.done))))) 9 (.step 5 (.take 10 (.step 11 (.take 12 (.done))))))))))))), [2], false, []⟩)] id with | some p => p | none => ⟨.done, [], false, []⟩) mixed_ok tab_ok eq_nil (satall_cons sat_Find (satall_cons sat_listL (satall_cons sat_Drop sat_nil))) Tryz.func120 rfl rfl sShrunk ⟨fun L => rfl, fun L => ⟨rfl, rfl⟩, fun L _ => ⟨rfl, rfl⟩, fun L _ => rfl, rfl, rfl⟩ (N := 46) rfl (by kernel_rfl) (fun L => Nat.le_of_ble_eq_true rfl) ?_
 intro (L : Nat) hp
 have hp0 : 64 ≤ L ∧ L ≤ 137438952448 := hp
 obtain ⟨hp1, hp2⟩ := hp0
 repeat' (first | (with_reducible refine Pch.mk ?_; kernel_rfl) | (intro n hr h; replace h := h (by omega) (by omega); subst h) | (intro h; try (exfalso; first | contradiction | exact h True.intro)) | ((conv => whnf) <;> (first | (with_reducible refine WL.mk ?_) | with_reducible refine And.intro ?_ ?_ | with_reducible exact True.intro | exact Eq.refl _)))
 all_goals (first | (first | assumption | contradiction | omega | ((try dsimp only [sShrunk] at *); omega) | ((conv => whnf); (try show (_ : Nat) ≤ _); (try dsimp only); omega)) | ((conv => whnf); refine' ⟨(() : sShrunk.δ), _, _, _, _⟩))
 all_goals (repeat' (first | exact True.intro | exact Eq.refl _ | exact Iff.refl _ | ((conv => whnf) <;> (first | (with_reducible refine WL.mk ?_) | with_reducible refine And.intro ?_ ?_ | with_reducible refine Iff.intro ?_ ?_))))
 all_goals (first | assumption | contradiction | omega | ((try dsimp only [sShrunk] at *); omega) | ((conv => whnf); (try show (_ : Nat) ≤ _); (try dsimp only); omega))
def spair : Fs where
 α := Nat
 δ := Unit
 A := fun | L => [.one (.c (.tint .i64)), .one (.c (.tint .i64)), .one (.c (.tint .i64)), .one (.c (.tint .i64))]
 B := fun | L => []
 L := fun | L => L
 get := fun avs bx L => some L
 pre := fun | L => 64 ≤ L ∧ L ≤ 137438952448
 rel := fun | L, () => True
 R := fun | L, () => .one (.agg (ndT L))
 B' := fun | L, () => []
 L' := fun | L, () => L
 reads := []
 tc := []
 st := fun p kk => match p with | L => opnA ([.one (.c (.tint .i64)), .one (.c (.tint .i64)), .one (.c (.tint .i64)), .one (.c (.tint .i64))]) fun avs0 => opnB ([]) fun bx0 => kk avs0 bx0 (L)
 st_ok := fun L _ h => opnA_imp (fun _ h => Or.inl h) h
 cps := fun p kk => match p with | L => opnB ([]) fun bx0 => kk (.one (.agg (ndT L))) bx0 (L)
 cur := fun L _ h () _ => (Or.inl (h ))
theorem sat_pair : Sat Tryz.prog tab 136 spair.spec := by
 refine sat_of ⟨tab, [(123, sWith.spec)], []⟩ (fun _ => ⟨.done, [], false, []⟩) mixed_ok tab_ok eq_nil (satall_cons sat_With sat_nil) Tryz.func136 rfl rfl spair ⟨fun L => rfl, fun L => ⟨rfl, rfl⟩, fun L _ => ⟨rfl, rfl⟩, fun L _ => rfl, rfl, rfl⟩ (N := 26) rfl (by kernel_rfl) (fun L => Nat.le_of_ble_eq_true rfl) ?_
 intro (L : Nat) hp
 have hp0 : 64 ≤ L ∧ L ≤ 137438952448 := hp
 obtain ⟨hp1, hp2⟩ := hp0
 repeat' (first | (with_reducible refine Pch.mk ?_; kernel_rfl) | (intro n hr h; replace h := h (by omega) (by omega); subst h) | (intro h; try (exfalso; first | contradiction | exact h True.intro)) | ((conv => whnf) <;> (first | (with_reducible refine WL.mk ?_) | with_reducible refine And.intro ?_ ?_ | with_reducible exact True.intro | exact Eq.refl _)))
 all_goals (first | (first | assumption | contradiction | omega | ((try dsimp only [spair] at *); omega) | ((conv => whnf); (try show (_ : Nat) ≤ _); (try dsimp only); omega)) | ((conv => whnf); refine' ⟨(() : spair.δ), _, _, _, _⟩))
 all_goals (repeat' (first | exact True.intro | exact Eq.refl _ | exact Iff.refl _ | ((conv => whnf) <;> (first | (with_reducible refine WL.mk ?_) | with_reducible refine And.intro ?_ ?_ | with_reducible refine Iff.intro ?_ ?_))))
 all_goals (first | assumption | contradiction | omega | ((try dsimp only [spair] at *); omega) | ((conv => whnf); (try show (_ : Nat) ≤ _); (try dsimp only); omega))
end Tv
end Go.Proofs.YtpabdmcbahmjnaaGreat
namespace Go.Proofs.YtpabdmcbahmjnaaGreat
open Go Go.RowKit
set_option linter.unusedSimpArgs false
set_option linter.unusedVariables false
theorem hash_num (s : ByteArray) (m : Int) (w : World) (hs : s.size ≤ maxLen) (h0 : 0 ≤ m) (h1 : m ≤ 18446744073709551615) :
  Calls Tryz.prog 92 #[.string s, .int .u64 m] w fun e w' => (∃ x : Int, 0 ≤ x ∧ x ≤ 18446744073709551615 ∧ e = .returned (.int .u64 x)) ∧ w = w' := by
 unfold maxLen at hs
 go_enter Tryz.func92, Tryz.ntmps92
 go_wp2
 go_loop [5, 6] (fun n i => ∃ k : Nat, k ≤ s.size ∧ i = .int .i64 k ∧ ∃ x : Int, n = .int .u64 x) (fun _ i => s.size - (intOf i).toNat)
 case atStart => exact ⟨0, Nat.zero_le _, rfl, _, rfl⟩
 case round =>
  obtain ⟨k, hk, rfl, x, rfl⟩ := hrel
  by_cases hlt : k < s.size
  ·go_wp2
   go_round
   case rel => exact ⟨k + 1, by omega, by go_num, _, rfl⟩
   case measure => simp [intOf]; omega
  ·go_wp2
   go_ret
   refine ⟨⟨_, ?_, ?_, rfl⟩, rfl⟩
   ·exact (Tv.wrap_inR .u64 _).1
   ·exact (Tv.wrap_inR .u64 _).2
end Go.Proofs.YtpabdmcbahmjnaaGreat
namespace Go.Proofs.YtpabdmcbahmjnaaGreat
namespace Tv
open Go Go.RowKit
set_option linter.unusedSimpArgs false
set_option linter.unusedVariables false
def sHash : Fs where
 α := Nat
 δ := Unit
 A := fun | L => [.one (.c .str), .one (.c (.tint .u64))]
 B := fun | L => []
 L := fun | L => L
 get := fun avs bx L => some L
 pre := fun | L => True
 rel := fun | L, () => True
 R := fun | L, () => .one (.c (.tint .u64))
 B' := fun | L, () => []
 L' := fun | L, () => L
 reads := []
 tc := []
 st := fun p kk => match p with | L => opnA ([.one (.c .str), .one (.c (.tint .u64))]) fun avs0 => opnB ([]) fun bx0 => kk avs0 bx0 (L)
 st_ok := fun L _ h => opnA_imp (fun _ h => Or.inl h) h
 cps := fun p kk => match p with | L => opnB ([]) fun bx0 => kk (.one (.c (.tint .u64))) bx0 (L)
 cur := fun L _ h () _ => (Or.inl (h ))
theorem sat_Hash : Sat Tryz.prog tab 92 sHash.spec := by
 refine ⟨⟨_, Tryz.func92, rfl, rfl⟩, ?_⟩
 intro avs bx L K hwp σ β w args hI hd hd' hargs
 obtain ⟨h1, h2, h3, h4, h5⟩ := (show wkA avs [.one (.c .str), .one (.c (.tint .u64))] ∧ wkB bx [] ∧ L = L ∧ True ∧ K (.one (.c (.tint .u64))) (assoc []) L from hwp)
 have hk := wkA_ok (ks := []) hargs h1 rfl
 have hβ : β = keepB [] β := by
  funext id
  cases hb : β id with
  | none => rfl
  | some b => have := hd id b hb; simp [Fs.spec, sHash, memb] at this
 obtain ⟨l⟩ := args
 simp only at hk
 cases hk with
 | cons k1 k2 =>
  cases k2 with
  | cons k3 k4 =>
   cases k4
   obtain ⟨s, rfl, hs⟩ := k1
   obtain ⟨m, rfl, hm⟩ := k3
   unfold strMax at hs
   obtain ⟨m1, m2⟩ := hm
   rw [u64_min] at m1
   rw [u64_max] at m2
   refine Calls.mono (hash_num s m w (by unfold maxLen; omega) m1 m2) ?_
   rintro e w' ⟨⟨x, x0, x1, rfl⟩, rfl⟩
   have hb := hI.weak (ks := []) (l := []) rfl trivial rfl
   rw [← hβ] at hb
   exact ⟨_, rfl, _, _, _, σ, h5, hb, Fr.refl _ _ _ _, x, rfl, by rw [u64_min]; exact x0, by rw [u64_max]; exact x1⟩
def memB (L : Nat) : List CV := [.sl 110 L, .sl 51 L, .tint .i64, .tint .i64]
def sNodes : Fs where
 α := Nat × Int
 δ := Nat
 A := fun | (L, lv) => [.one (.agg (ndT L)), .one (.c (.tint .i64)), .one (.c (.tint .u64)), .one (.c .str), .one (.c (.tint .u64)), .one (.c (.int .i64 lv)), .one (.c (.tint .i64)), .one (.c (.tint .i64))]
 B := fun | (L, lv) => []
 L := fun | (L, lv) => L
 get := fun avs bx L => match avs with | [_, _, _, _, _, .one (.c (.int _ lv)), _, _] => some (L, lv) | _ => none
 pre := fun | (L, lv) => 0 ≤ lv ∧ 64 ≤ L ∧ L ≤ 137438952448
 rel := fun | (L, lv), n => n ≤ 24
 R := fun | (L, lv), n => .tup [.c (.slice 110 n), .c (.slice 51 n)]
 B' := fun | (L, lv), n => []
 L' := fun | (L, lv), n => L
 reads := []
 tc := []
 st := fun p kk => match p with | (L, lv) => opnA ([.one (.agg (ndT L)), .one (.c (.tint .i64)), .one (.c (.tint .u64)), .one (.c .str), .one (.c (.tint .u64)), .one (.c (.int .i64 lv)), .one (.c (.tint .i64)), .one (.c (.tint .i64))]) fun avs0 => opnB ([]) fun bx0 => kk avs0 bx0 (L)
 st_ok := fun ⟨L, lv⟩ _ h => opnA_imp (fun _ h => Or.inl h) h
 cps := fun p kk => match p with | (L, lv) => ∀ n : Nat, (n ≤ 24) → opnB ([]) fun bx0 => kk (.tup [.c (.slice 110 n), .c (.slice 51 n)]) bx0 (L)
 cur := fun ⟨L, lv⟩ _ h n h1 => (Or.inl (h n h1))
set_option maxHeartbeats 8000000 in
theorem sat_Nodes : Sat Tryz.prog tab 126 sNodes.spec := by
 refine sat_of ⟨tab, [(134, sCommon.spec), (135, sOf.spec), (88, sSlice.spec), (136, spair.spec), (123, sWith.spec)], []⟩ (fun _ => ⟨.done, [], false, []⟩) mixed_ok tab_ok eq_nil (satall_cons sat_Common (satall_cons sat_Of (satall_cons sat_Slice (satall_cons sat_pair (satall_cons sat_With sat_nil))))) Tryz.func126 rfl rfl sNodes ⟨fun ⟨L, lv⟩ => rfl, fun ⟨L, lv⟩ => ⟨rfl, rfl⟩, fun ⟨L, lv⟩ n => ⟨rfl, rfl⟩, fun ⟨L, lv⟩ n => rfl, rfl, rfl⟩ (N := 92) rfl (by kernel_rfl) (fun ⟨L, lv⟩ => Nat.le_of_ble_eq_true rfl) ?_
 intro p hp
 obtain ⟨L, lv⟩ := p
 have hp0 : 0 ≤ lv ∧ 64 ≤ L ∧ L ≤ 137438952448 := hp
 obtain ⟨hp3, hp1, hp2⟩ := hp0
 repeat' (first | (with_reducible refine Pch.mk ?_; kernel_rfl) | (intro n hr h; replace h := h (by omega) (by omega); subst h) | (intro h; try (exfalso; first | contradiction | exact h True.intro)) | ((conv => whnf) <;> (first | (with_reducible refine WL.mk ?_) | with_reducible refine And.intro ?_ ?_ | with_reducible exact True.intro | exact Eq.refl _)))
 all_goals (first | (first | assumption | contradiction | omega | ((try dsimp only [sNodes] at *); omega) | ((conv => whnf); (try show (_ : Nat) ≤ _); (try dsimp only); omega)) | ((conv => whnf); refine' ⟨(_ : sNodes.δ), _, _, _, _⟩) | ((conv => whnf); refine' ⟨Int × Nat, fun | (k, n) => ⟨[(2, .one (.c (.tint .u64))), (5, ci .i64 lv), (6, .one (.c (.tint .i64))), (7, .one (.c (.tint .i64))), (16, .one (.c (.slice 110 n))), (17, .one (.c (.slice 51 n))), (20, ci .i64 k)], [], L⟩, fun | (k, n) => k ≤ 10 ∧ -1 ≤ k ∧ (n : Int) ≤ 22 - 2 * k, fun | (k, n) => (k + 1 - lv).toNat, ⟨(_, _), _, _⟩, _⟩))
 all_goals (repeat' (first | exact True.intro | exact Eq.refl _ | exact Iff.refl _ | ((conv => whnf) <;> (first | (with_reducible refine WL.mk ?_) | with_reducible refine And.intro ?_ ?_ | with_reducible refine Iff.intro ?_ ?_))))
 all_goals (first | (first | assumption | contradiction | omega | ((try dsimp only [sNodes] at *); omega) | ((conv => whnf); (try show (_ : Nat) ≤ _); (try dsimp only); omega)) | (rintro ⟨k, n⟩ ⟨hx1, hx2, hx3⟩; (repeat' (first | (with_reducible refine Pch.mk ?_; kernel_rfl) | (intro n hr h; replace h := h (by omega) (by omega); subst h) | (intro h; try (exfalso; first | contradiction | exact h True.intro)) | ((conv => whnf) <;> (first | (with_reducible refine WL.mk ?_) | with_reducible refine And.intro ?_ ?_ | with_reducible exact True.intro | exact Eq.refl _))))))
 all_goals (first | (first | assumption | contradiction | omega | ((try dsimp only [sNodes] at *); omega) | ((conv => whnf); (try show (_ : Nat) ≤ _); (try dsimp only); omega)) | ((conv => whnf); first | refine' ⟨(_ : sNodes.δ), _, _, _, _⟩ | refine' ⟨(_, _), _, _, _⟩))
 all_goals (repeat' (first | exact True.intro | exact Eq.refl _ | exact Iff.refl _ | ((conv => whnf) <;> (first | (with_reducible refine WL.mk ?_) | with_reducible refine And.intro ?_ ?_ | with_reducible refine Iff.intro ?_ ?_))))
 all_goals (first | assumption | contradiction | omega | ((try dsimp only [sNodes] at *); omega) | ((conv => whnf); (try show (_ : Nat) ≤ _); (try dsimp only); omega))
def sNewGen : Fs where
 α := Nat
 δ := Unit
 A := fun | L => [.one (.c (.loc 1000 0))]
 B := fun | L => [(1000, memB L)]
 L := fun | L => L
 get := fun avs bx L => some L
 pre := fun | L => True
 rel := fun | L, () => True
 R := fun | L, () => .one (.c (.tint .i64))
 B' := fun | L, () => [(1000, memB L)]
 L' := fun | L, () => L
 reads := [1000]
 tc := [1000]
 st := fun p kk => match p with | L => opnA ([.one (.c (.loc 1000 0))]) fun avs0 => opnB ([(1000, memB L)]) fun bx0 => kk avs0 bx0 (L)
 st_ok := fun L _ h => opnA_imp (fun _ h => Or.inl h) h
 cps := fun p kk => match p with | L => opnB ([(1000, memB L)]) fun bx0 => kk (.one (.c (.tint .i64))) bx0 (L)
 cur := fun L _ h () _ => (Or.inl (h ))
theorem sat_NewGen : Sat Tryz.prog tab 52 sNewGen.spec := by
 refine sat_of ⟨tab, [], []⟩ (fun _ => ⟨.done, [], false, []⟩) mixed_ok tab_ok eq_nil sat_nil Tryz.func52 rfl rfl sNewGen ⟨fun L => rfl, fun L => ⟨rfl, rfl⟩, fun L _ => ⟨rfl, rfl⟩, fun L _ => rfl, rfl, rfl⟩ (N := 17) rfl (by kernel_rfl) (fun L => Nat.le_of_ble_eq_true rfl) ?_
 intro (L : Nat) hp
 repeat' (first | (with_reducible refine Pch.mk ?_; kernel_rfl) | (intro n hr h; replace h := h (by omega) (by omega); subst h) | (intro h; try (exfalso; first | contradiction | exact h True.intro)) | ((conv => whnf) <;> (first | (with_reducible refine WL.mk ?_) | with_reducible refine And.intro ?_ ?_ | with_reducible exact True.intro | exact Eq.refl _)))
 all_goals (first | (first | assumption | contradiction | omega | ((try dsimp only [sNewGen] at *); omega) | ((conv => whnf); (try show (_ : Nat) ≤ _); (try dsimp only); omega)) | ((conv => whnf); refine' ⟨(() : sNewGen.δ), _, _, _, _⟩))
 all_goals (repeat' (first | exact True.intro | exact Eq.refl _ | exact Iff.refl _ | ((conv => whnf) <;> (first | (with_reducible refine WL.mk ?_) | with_reducible refine And.intro ?_ ?_ | with_reducible refine Iff.intro ?_ ?_))))
 all_goals (first | assumption | contradiction | omega | ((try dsimp only [sNewGen] at *); omega) | ((conv => whnf); (try show (_ : Nat) ≤ _); (try dsimp only); omega))
def sNewCell : Fs where
 α := Nat
 δ := Nat
 A := fun | L => [.one (.c (.loc 1000 0)), .one (.c (.tint .i64))]
 B := fun | L => [(1000, memB L)]
 L := fun | L => L
 get := fun avs bx L => some L
 pre := fun | L => 64 ≤ L ∧ L ≤ 137438952448
 rel := fun | L, L2 => L ≤ L2 ∧ L2 ≤ L + 1
 R := fun | L, L2 => .one (.c (.tint .i64))
 B' := fun | L, L2 => [(1000, memB L2)]
 L' := fun | L, L2 => L2
 reads := [1000]
 tc := [1000]
 st := fun p kk => match p with | L => opnA ([.one (.c (.loc 1000 0)), .one (.c (.tint .i64))]) fun avs0 => opnB ([(1000, memB L)]) fun bx0 => kk avs0 bx0 (L)
 st_ok := fun L _ h => opnA_imp (fun _ h => Or.inl h) h
 cps := fun p kk => match p with | L => ∀ L2 : Nat, (L ≤ L2) → (L2 ≤ L + 1) → opnB ([(1000, memB L2)]) fun bx0 => kk (.one (.c (.tint .i64))) bx0 (L2)
 cur := fun L _ h L2 ⟨h1, h2⟩ => (Or.inl (h L2 h1 h2))
theorem sat_NewCell : Sat Tryz.prog tab 53 sNewCell.spec := by
 refine sat_of ⟨tab, [], []⟩ (fun _ => ⟨.done, [], false, []⟩) mixed_ok tab_ok eq_nil sat_nil Tryz.func53 rfl rfl sNewCell ⟨fun L => rfl, fun L => ⟨rfl, rfl⟩, fun L L2 => ⟨rfl, rfl⟩, fun L L2 => rfl, rfl, rfl⟩ (N := 23) rfl (by kernel_rfl) (fun L => Nat.le_of_ble_eq_true rfl) ?_
 intro (L : Nat) hp
 have hp0 : 64 ≤ L ∧ L ≤ 137438952448 := hp
 obtain ⟨hp1, hp2⟩ := hp0
 repeat' (first | (with_reducible refine Pch.mk ?_; kernel_rfl) | (intro n hr h; replace h := h (by omega) (by omega); subst h) | (intro h; try (exfalso; first | contradiction | exact h True.intro)) | ((conv => whnf) <;> (first | (with_reducible refine WL.mk ?_) | with_reducible refine And.intro ?_ ?_ | with_reducible exact True.intro | exact Eq.refl _)))
 all_goals (first | (first | assumption | contradiction | omega | ((try dsimp only [sNewCell] at *); omega) | ((conv => whnf); (try show (_ : Nat) ≤ _); (try dsimp only); omega)) | ((conv => whnf); refine' ⟨(_ : sNewCell.δ), _, _, _, _⟩))
 all_goals (repeat' (first | exact True.intro | exact Eq.refl _ | exact Iff.refl _ | ((conv => whnf) <;> (first | (with_reducible refine WL.mk ?_) | with_reducible refine And.intro ?_ ?_ | with_reducible refine Iff.intro ?_ ?_))))
 all_goals (first | assumption | contradiction | omega | ((try dsimp only [sNewCell] at *); omega) | ((conv => whnf); (try show (_ : Nat) ≤ _); (try dsimp only); omega))
def sMLoad : Fs where
 α := Nat
 δ := Unit
 A := fun | L => [.one (.c (.loc 1000 0)), .one (.c (.tint .i64))]
 B := fun | L => [(1000, memB L)]
 L := fun | L => L
 get := fun avs bx L => some L
 pre := fun | L => 64 ≤ L ∧ L ≤ 137438952448
 rel := fun | L, () => True
 R := fun | L, () => .one (.c (.tint .i64))
 B' := fun | L, () => [(1000, memB L)]
 L' := fun | L, () => L
 reads := [1000]
 tc := [1000]
 st := fun p kk => match p with | L => opnA ([.one (.c (.loc 1000 0)), .one (.c (.tint .i64))]) fun avs0 => opnB ([(1000, memB L)]) fun bx0 => kk avs0 bx0 (L)
 st_ok := fun L _ h => opnA_imp (fun _ h => Or.inl h) h
 cps := fun p kk => match p with | L => opnB ([(1000, memB L)]) fun bx0 => kk (.one (.c (.tint .i64))) bx0 (L)
 cur := fun L _ h () _ => (Or.inl (h ))
theorem sat_MLoad : Sat Tryz.prog tab 107 sMLoad.spec := by
 refine sat_of ⟨tab, [], []⟩ (fun _ => ⟨.done, [], false, []⟩) mixed_ok tab_ok eq_nil sat_nil Tryz.func107 rfl rfl sMLoad ⟨fun L => rfl, fun L => ⟨rfl, rfl⟩, fun L _ => ⟨rfl, rfl⟩, fun L _ => rfl, rfl, rfl⟩ (N := 33) rfl (by kernel_rfl) (fun L => Nat.le_of_ble_eq_true rfl) ?_
 intro (L : Nat) hp
 have hp0 : 64 ≤ L ∧ L ≤ 137438952448 := hp
 obtain ⟨hp1, hp2⟩ := hp0
 repeat' (first | (with_reducible refine Pch.mk ?_; kernel_rfl) | (intro n hr h; replace h := h (by omega) (by omega); subst h) | (intro h; try (exfalso; first | contradiction | exact h True.intro)) | ((conv => whnf) <;> (first | (with_reducible refine WL.mk ?_) | with_reducible refine And.intro ?_ ?_ | with_reducible exact True.intro | exact Eq.refl _)))
 all_goals (first | (first | assumption | contradiction | omega | ((try dsimp only [sMLoad] at *); omega) | ((conv => whnf); (try show (_ : Nat) ≤ _); (try dsimp only); omega)) | ((conv => whnf); refine' ⟨(() : sMLoad.δ), _, _, _, _⟩))
 all_goals (repeat' (first | exact True.intro | exact Eq.refl _ | exact Iff.refl _ | ((conv => whnf) <;> (first | (with_reducible refine WL.mk ?_) | with_reducible refine And.intro ?_ ?_ | with_reducible refine Iff.intro ?_ ?_))))
 all_goals (first | assumption | contradiction | omega | ((try dsimp only [sMLoad] at *); omega) | ((conv => whnf); (try show (_ : Nat) ≤ _); (try dsimp only); omega))
def sMNode : Fs where
 α := Nat
 δ := Unit
 A := fun | L => [.one (.c (.loc 1000 0)), .one (.c (.tint .i64))]
 B := fun | L => [(1000, memB L)]
 L := fun | L => L
 get := fun avs bx L => some L
 pre := fun | L => 64 ≤ L ∧ L ≤ 137438952448
 rel := fun | L, () => True
 R := fun | L, () => .one (.agg (ndT L))
 B' := fun | L, () => [(1000, memB L)]
 L' := fun | L, () => L
 reads := [1000]
 tc := [1000]
 st := fun p kk => match p with | L => opnA ([.one (.c (.loc 1000 0)), .one (.c (.tint .i64))]) fun avs0 => opnB ([(1000, memB L)]) fun bx0 => kk avs0 bx0 (L)
 st_ok := fun L _ h => opnA_imp (fun _ h => Or.inl h) h
 cps := fun p kk => match p with | L => opnB ([(1000, memB L)]) fun bx0 => kk (.one (.agg (ndT L))) bx0 (L)
 cur := fun L _ h () _ => (Or.inl (h ))
theorem sat_MNode : Sat Tryz.prog tab 108 sMNode.spec := by
 refine sat_of ⟨tab, [], []⟩ (fun _ => ⟨.done, [], false, []⟩) mixed_ok tab_ok eq_nil sat_nil Tryz.func108 rfl rfl sMNode ⟨fun L => rfl, fun L => ⟨rfl, rfl⟩, fun L _ => ⟨rfl, rfl⟩, fun L _ => rfl, rfl, rfl⟩ (N := 27) rfl (by kernel_rfl) (fun L => Nat.le_of_ble_eq_true rfl) ?_
 intro (L : Nat) hp
 have hp0 : 64 ≤ L ∧ L ≤ 137438952448 := hp
 obtain ⟨hp1, hp2⟩ := hp0
 repeat' (first | (with_reducible refine Pch.mk ?_; kernel_rfl) | (intro n hr h; replace h := h (by omega) (by omega); subst h) | (intro h; try (exfalso; first | contradiction | exact h True.intro)) | ((conv => whnf) <;> (first | (with_reducible refine WL.mk ?_) | with_reducible refine And.intro ?_ ?_ | with_reducible exact True.intro | exact Eq.refl _)))
 all_goals (first | (first | assumption | contradiction | omega | ((try dsimp only [sMNode] at *); omega) | ((conv => whnf); (try show (_ : Nat) ≤ _); (try dsimp only); omega)) | ((conv => whnf); refine' ⟨(() : sMNode.δ), _, _, _, _⟩))
 all_goals (repeat' (first | exact True.intro | exact Eq.refl _ | exact Iff.refl _ | ((conv => whnf) <;> (first | (with_reducible refine WL.mk ?_) | with_reducible refine And.intro ?_ ?_ | with_reducible refine Iff.intro ?_ ?_))))
 all_goals (first | assumption | contradiction | omega | ((try dsimp only [sMNode] at *); omega) | ((conv => whnf); (try show (_ : Nat) ≤ _); (try dsimp only); omega))
def sMCAS : Fs where
 α := Nat
 δ := Unit
 A := fun | L => [.one (.c (.loc 1000 0)), .one (.c (.tint .i64)), .one (.c (.tint .i64)), .one (.c (.tint .i64))]
 B := fun | L => [(1000, memB L)]
 L := fun | L => L
 get := fun avs bx L => some L
 pre := fun | L => 64 ≤ L ∧ L ≤ 137438952448
 rel := fun | L, () => True
 R := fun | L, () => .one (.c .tbool)
 B' := fun | L, () => [(1000, memB L)]
 L' := fun | L, () => L
 reads := [1000]
 tc := [1000]
 st := fun p kk => match p with | L => opnA ([.one (.c (.loc 1000 0)), .one (.c (.tint .i64)), .one (.c (.tint .i64)), .one (.c (.tint .i64))]) fun avs0 => opnB ([(1000, memB L)]) fun bx0 => kk avs0 bx0 (L)
 st_ok := fun L _ h => opnA_imp (fun _ h => Or.inl h) h
 cps := fun p kk => match p with | L => opnB ([(1000, memB L)]) fun bx0 => kk (.one (.c .tbool)) bx0 (L)
 cur := fun L _ h () _ => (Or.inl (h ))
theorem sat_MCAS : Sat Tryz.prog tab 109 sMCAS.spec := by
 refine sat_of ⟨tab, [], []⟩ (fun _ => ⟨.done, [], false, []⟩) mixed_ok tab_ok eq_nil sat_nil Tryz.func109 rfl rfl sMCAS ⟨fun L => rfl, fun L => ⟨rfl, rfl⟩, fun L _ => ⟨rfl, rfl⟩, fun L _ => rfl, rfl, rfl⟩ (N := 50) rfl (by kernel_rfl) (fun L => Nat.le_of_ble_eq_true rfl) ?_
 intro (L : Nat) hp
 have hp0 : 64 ≤ L ∧ L ≤ 137438952448 := hp
 obtain ⟨hp1, hp2⟩ := hp0
 repeat' (first | (with_reducible refine Pch.mk ?_; kernel_rfl) | (intro n hr h; replace h := h (by omega) (by omega); subst h) | (intro h; try (exfalso; first | contradiction | exact h True.intro)) | ((conv => whnf) <;> (first | (with_reducible refine WL.mk ?_) | with_reducible refine And.intro ?_ ?_ | with_reducible exact True.intro | exact Eq.refl _)))
 all_goals (first | (first | assumption | contradiction | omega | ((try dsimp only [sMCAS] at *); omega) | ((conv => whnf); (try show (_ : Nat) ≤ _); (try dsimp only); omega)) | ((conv => whnf); refine' ⟨(() : sMCAS.δ), _, _, _, _⟩))
 all_goals (repeat' (first | exact True.intro | exact Eq.refl _ | exact Iff.refl _ | ((conv => whnf) <;> (first | (with_reducible refine WL.mk ?_) | with_reducible refine And.intro ?_ ?_ | with_reducible refine Iff.intro ?_ ?_))))
 all_goals (first | assumption | contradiction | omega | ((try dsimp only [sMCAS] at *); omega) | ((conv => whnf); (try show (_ : Nat) ≤ _); (try dsimp only); omega))
def sMAlloc : Fs where
 α := Nat
 δ := Nat
 A := fun | L => [.one (.c (.loc 1000 0)), .one (.agg (ndT L)), .one (.c (.tint .i64))]
 B := fun | L => [(1000, memB L)]
 L := fun | L => L
 get := fun avs bx L => some L
 pre := fun | L => 64 ≤ L ∧ L ≤ 137438952448
 rel := fun | L, L2 => L ≤ L2 ∧ L2 ≤ L + 2
 R := fun | L, L2 => .one (.c (.tint .i64))
 B' := fun | L, L2 => [(1000, memB L2)]
 L' := fun | L, L2 => L2
 reads := [1000]
 tc := [1000]
 st := fun p kk => match p with | L => opnA ([.one (.c (.loc 1000 0)), .one (.agg (ndT L)), .one (.c (.tint .i64))]) fun avs0 => opnB ([(1000, memB L)]) fun bx0 => kk avs0 bx0 (L)
 st_ok := fun L _ h => opnA_imp (fun _ h => Or.inl h) h
 cps := fun p kk => match p with | L => ∀ L2 : Nat, (L ≤ L2) → (L2 ≤ L + 2) → opnB ([(1000, memB L2)]) fun bx0 => kk (.one (.c (.tint .i64))) bx0 (L2)
 cur := fun L _ h L2 ⟨h1, h2⟩ => (Or.inl (h L2 h1 h2))
theorem sat_MAlloc : Sat Tryz.prog tab 51 sMAlloc.spec := by
 refine sat_of ⟨tab, [(53, sNewCell.spec)], []⟩ (fun id => match assoc [(13, ⟨.take 0 (.take 1 (.take 2 (.take 3 (.take 4 (.take 5 (.take 6 (.step 7 (.step 8 (.take 9 (.take 10 (.take 11 (.brk (.step 12 (.done)))))))))))))), [4, 1000], false, [12]⟩)] id with | some p => p | none => ⟨.done, [], false, []⟩) mixed_ok tab_ok eq_nil (satall_cons sat_NewCell sat_nil) Tryz.func51 rfl rfl sMAlloc ⟨fun L => rfl, fun L => ⟨rfl, rfl⟩, fun L L2 => ⟨rfl, rfl⟩, fun L L2 => rfl, rfl, rfl⟩ (N := 60) rfl (by kernel_rfl) (fun L => Nat.le_of_ble_eq_true rfl) ?_
 intro (L : Nat) hp
 have hp0 : 64 ≤ L ∧ L ≤ 137438952448 := hp
 obtain ⟨hp1, hp2⟩ := hp0
 repeat' (first | (with_reducible refine Pch.mk ?_; kernel_rfl) | (intro n hr h; replace h := h (by omega) (by omega); subst h) | (intro h; try (exfalso; first | contradiction | exact h True.intro)) | ((conv => whnf) <;> (first | (with_reducible refine WL.mk ?_) | with_reducible refine And.intro ?_ ?_ | with_reducible exact True.intro | exact Eq.refl _)))
 all_goals (first | (first | assumption | contradiction | omega | ((try dsimp only [sMAlloc] at *); omega) | ((conv => whnf); (try show (_ : Nat) ≤ _); (try dsimp only); omega)) | ((conv => whnf); refine' ⟨(_ : sMAlloc.δ), _, _, _, _⟩))
 all_goals (repeat' (first | exact True.intro | exact Eq.refl _ | exact Iff.refl _ | ((conv => whnf) <;> (first | (with_reducible refine WL.mk ?_) | with_reducible refine And.intro ?_ ?_ | with_reducible refine Iff.intro ?_ ?_))))
 all_goals (first | assumption | contradiction | omega | ((try dsimp only [sMAlloc] at *); omega) | ((conv => whnf); (try show (_ : Nat) ≤ _); (try dsimp only); omega))
end Tv
end Go.Proofs.YtpabdmcbahmjnaaGreat
