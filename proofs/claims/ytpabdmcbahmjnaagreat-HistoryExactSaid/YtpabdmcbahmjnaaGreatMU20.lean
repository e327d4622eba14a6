/- Handles: what is said of the table (checker). -/
import Derived.Test.YtpabdmcbahmjnaaGreatMUC
namespace Go.Proofs.YtpabdmcbahmjnaaGreat
namespace Tv
open Go Go.RowKit
set_option linter.unusedSimpArgs false
set_option linter.unusedVariables false
def tbB : List CV := [.any, .tint .u64, .slice 4 129, .slice 54 129, .slice 104 129, .slice 3 129, .slice 54 129, .slice 4 129, .slice 4 129, .any]
def sCreate : Fs where
 α := Nat
 δ := Nat
 A := fun | L => [.one (.c (.loc 1000 0))]
 B := fun | L => [(1000, memB L)]
 L := fun | L => L
 get := fun avs bx L => some L
 pre := fun | L => 64 ≤ L ∧ L + 10 ≤ 137438950000
 rel := fun | L, L2 => L ≤ L2 ∧ L2 ≤ L + 5
 R := fun | L, L2 => .one (.agg [.tint .i64, .tbool])
 B' := fun | L, L2 => [(1000, memB L2)]
 L' := fun | L, L2 => L2
 reads := [1000]
 tc := [1000]
 st := fun p kk => match p with | L => opnA ([.one (.c (.loc 1000 0))]) fun avs0 => opnB ([(1000, memB L)]) fun bx0 => kk avs0 bx0 (L)
 st_ok := fun L _ h => opnA_imp (fun _ h => Or.inl h) h
 cps := fun p kk => match p with | L => ∀ L2 : Nat, (L ≤ L2) → (L2 ≤ L + 5) → opnB ([(1000, memB L2)]) fun bx0 => kk (.one (.agg [.tint .i64, .tbool])) bx0 (L2)
 cur := fun L _ h L2 ⟨h1, h2⟩ => (Or.inl (h L2 h1 h2))
theorem sat_Create : Sat Tryz.prog tab 40 sCreate.spec := by
 refine sat_of ⟨tab, [(51, sMAlloc.spec), (52, sNewGen.spec), (53, sNewCell.spec)], []⟩ (fun _ => ⟨.done, [], false, []⟩) mixed_ok tab_ok eq_nil (satall_cons sat_MAlloc (satall_cons sat_NewGen (satall_cons sat_NewCell sat_nil))) Tryz.func40 rfl rfl sCreate ⟨fun L => rfl, fun L => ⟨rfl, rfl⟩, fun L L2 => ⟨rfl, rfl⟩, fun L L2 => rfl, rfl, rfl⟩ (N := 18) rfl (by kernel_rfl) (fun L => Nat.le_of_ble_eq_true rfl) ?_
 intro (L : Nat) hp
 obtain ⟨hL0, hL1⟩ := hp
 repeat' (first | (with_reducible refine Pch.mk ?_; kernel_rfl) | (intro n hr h; replace h := h (by omega) (by omega); subst h) | (intro z hz; first | (replace hz := HZ.at hz (by omega) (by omega); subst hz) | (replace hz := HZ.no hz; subst hz) | (replace hz := HZ.yes hz; subst hz)) | (intro h; try (exfalso; first | contradiction | exact h True.intro)) | ((conv => whnf) <;> (first | (with_reducible refine WL.ex ?_) | (with_reducible refine WL.me ?_) | (with_reducible refine WL.mk ?_) | with_reducible refine And.intro ?_ ?_ | with_reducible exact True.intro | exact Eq.refl _)))
 all_goals (first | (first | assumption | contradiction | omega | ((try dsimp only [sCreate] at *); omega) | ((conv => whnf); (try show (_ : Nat) ≤ _); (try dsimp only); omega)) | ((conv => whnf); refine' ⟨(_ : sCreate.δ), _, _, _, _⟩))
 all_goals (repeat' (first | exact True.intro | exact Eq.refl _ | exact Iff.refl _ | ((conv => whnf) <;> (first | (with_reducible refine WL.ex ?_) | (with_reducible refine WL.me ?_) | (with_reducible refine WL.mk ?_) | with_reducible refine And.intro ?_ ?_ | with_reducible refine Iff.intro ?_ ?_))))
 all_goals (first | assumption | contradiction | omega | ((try dsimp only [sCreate] at *); omega) | ((conv => whnf); (try show (_ : Nat) ≤ _); (try dsimp only); omega))
def sNumber : Fs where
 α := Nat × Int × Int
 δ := Int
 A := fun | (L, a, b) => [.one (.c (.int .i64 a)), .one (.c (.int .i64 b))]
 B := fun | (L, a, b) => []
 L := fun | (L, a, b) => L
 get := fun avs bx L => match avs with | [.one (.c (.int _ a)), .one (.c (.int _ b))] => some (L, a, b) | _ => none
 pre := fun | (L, a, b) => True
 rel := fun | (L, a, b), n => -1 ≤ n ∧ n ≤ 128
 R := fun | (L, a, b), n => .one (.c (.int .i64 n))
 B' := fun | (L, a, b), n => []
 L' := fun | (L, a, b), n => L
 reads := []
 tc := []
 st := fun p kk => match p with | (L, a, b) => opnA ([.one (.c (.int .i64 a)), .one (.c (.int .i64 b))]) fun avs0 => opnB ([]) fun bx0 => kk avs0 bx0 (L)
 st_ok := fun ⟨L, a, b⟩ _ h => opnA_imp (fun _ h => Or.inl h) h
 cps := fun p kk => match p with | (L, a, b) => ∀ n : Int, (-1 ≤ n) → (n ≤ 128) → opnB ([]) fun bx0 => kk (.one (.c (.int .i64 n))) bx0 (L)
 cur := fun ⟨L, a, b⟩ _ h n ⟨h1, h2⟩ => (Or.inl (h n h1 h2))
theorem sat_Number : Sat Tryz.prog tab 55 sNumber.spec := by
 refine sat_of ⟨tab, [], []⟩ (fun _ => ⟨.done, [], false, []⟩) mixed_ok tab_ok eq_nil sat_nil Tryz.func55 rfl rfl sNumber ⟨fun ⟨L, a, b⟩ => rfl, fun ⟨L, a, b⟩ => ⟨rfl, rfl⟩, fun ⟨L, a, b⟩ n => ⟨rfl, rfl⟩, fun ⟨L, a, b⟩ n => rfl, rfl, rfl⟩ (N := 24) rfl (by kernel_rfl) (fun ⟨L, a, b⟩ => Nat.le_of_ble_eq_true rfl) ?_
 intro p hp
 obtain ⟨L, a, b⟩ := p
 repeat' (first | (with_reducible refine Pch.mk ?_; kernel_rfl) | (intro n hr h; replace h := h (by omega) (by omega); subst h) | (intro z hz; first | (replace hz := HZ.at hz (by omega) (by omega); subst hz) | (replace hz := HZ.no hz; subst hz) | (replace hz := HZ.yes hz; subst hz)) | (intro h; try (exfalso; first | contradiction | exact h True.intro)) | ((conv => whnf) <;> (first | (with_reducible refine WL.ex ?_) | (with_reducible refine WL.me ?_) | (with_reducible refine WL.mk ?_) | with_reducible refine And.intro ?_ ?_ | with_reducible exact True.intro | exact Eq.refl _)))
 all_goals (first | (first | assumption | contradiction | omega | ((try dsimp only [sNumber] at *); omega) | ((conv => whnf); (try show (_ : Nat) ≤ _); (try dsimp only); omega)) | ((conv => whnf); refine' ⟨(_ : sNumber.δ), _, _, _, _⟩))
 all_goals (repeat' (first | exact True.intro | exact Eq.refl _ | exact Iff.refl _ | ((conv => whnf) <;> (first | (with_reducible refine WL.ex ?_) | (with_reducible refine WL.me ?_) | (with_reducible refine WL.mk ?_) | with_reducible refine And.intro ?_ ?_ | with_reducible refine Iff.intro ?_ ?_))))
 all_goals (first | assumption | contradiction | omega | ((try dsimp only [sNumber] at *); omega) | ((conv => whnf); (try show (_ : Nat) ≤ _); (try dsimp only); omega))
def sin : Fs where
 α := Nat × Int
 δ := Unit
 A := fun | (L, a) => [.one (.c (.int .i64 a))]
 B := fun | (L, a) => []
 L := fun | (L, a) => L
 get := fun avs bx L => match avs with | [.one (.c (.int _ a))] => some (L, a) | _ => none
 pre := fun | (L, a) => True
 rel := fun | (L, a), () => True
 R := fun | (L, a), () => .one (.c (.prop (0 ≤ a ∧ a < 129)))
 B' := fun | (L, a), () => []
 L' := fun | (L, a), () => L
 reads := []
 tc := []
 st := fun p kk => match p with | (L, a) => opnA ([.one (.c (.int .i64 a))]) fun avs0 => opnB ([]) fun bx0 => kk avs0 bx0 (L)
 st_ok := fun ⟨L, a⟩ _ h => opnA_imp (fun _ h => Or.inl h) h
 cps := fun p kk => match p with | (L, a) => opnB ([]) fun bx0 => kk (.one (.c (.prop (0 ≤ a ∧ a < 129)))) bx0 (L)
 cur := fun ⟨L, a⟩ _ h () _ => (Or.inl (h ))
theorem sat_in : Sat Tryz.prog tab 59 sin.spec := by
 refine sat_of ⟨tab, [], []⟩ (fun _ => ⟨.done, [], false, []⟩) mixed_ok tab_ok eq_nil sat_nil Tryz.func59 rfl rfl sin ⟨fun ⟨L, a⟩ => rfl, fun ⟨L, a⟩ => ⟨rfl, rfl⟩, fun ⟨L, a⟩ _ => ⟨rfl, rfl⟩, fun ⟨L, a⟩ _ => rfl, rfl, rfl⟩ (N := 9) rfl (by kernel_rfl) (fun ⟨L, a⟩ => Nat.le_of_ble_eq_true rfl) ?_
 intro p hp
 obtain ⟨L, a⟩ := p
 repeat' (first | (with_reducible refine Pch.mk ?_; kernel_rfl) | (intro n hr h; replace h := h (by omega) (by omega); subst h) | (intro z hz; first | (replace hz := HZ.at hz (by omega) (by omega); subst hz) | (replace hz := HZ.no hz; subst hz) | (replace hz := HZ.yes hz; subst hz)) | (intro h; try (exfalso; first | contradiction | exact h True.intro)) | ((conv => whnf) <;> (first | (with_reducible refine WL.ex ?_) | (with_reducible refine WL.me ?_) | (with_reducible refine WL.mk ?_) | with_reducible refine And.intro ?_ ?_ | with_reducible exact True.intro | exact Eq.refl _)))
 all_goals (first | (first | assumption | contradiction | omega | (intro hh; first | contradiction | omega | exact ⟨by omega, by omega⟩) | ((conv => whnf); (try show (_ : Nat) ≤ _); (try dsimp only); omega)) | ((conv => whnf); refine' ⟨(() : sin.δ), _, _, _, _⟩))
 all_goals (repeat' (first | exact True.intro | exact Eq.refl _ | exact Iff.refl _ | ((conv => whnf) <;> (first | (with_reducible refine WL.ex ?_) | (with_reducible refine WL.me ?_) | (with_reducible refine WL.mk ?_) | with_reducible refine And.intro ?_ ?_ | with_reducible refine Iff.intro ?_ ?_))))
 all_goals (first | assumption | contradiction | omega | (intro hh; first | contradiction | omega | exact ⟨by omega, by omega⟩) | ((conv => whnf); (try show (_ : Nat) ≤ _); (try dsimp only); omega))
def sError : Fs where
 α := Nat
 δ := Unit
 A := fun | L => [.one (.c (.loc 1002 0)), .one (.c (.tint .i64)), .one (.c (.tint .i64)), .one (.agg [.tint .i64, .tint .i64, .str, .tint .u64, .tint .u64])]
 B := fun | L => [(1002, tbB)]
 L := fun | L => L
 get := fun avs bx L => some L
 pre := fun | L => 64 ≤ L
 rel := fun | L, () => True
 R := fun | L, () => .one (.c (.tint .i64))
 B' := fun | L, () => [(1002, tbB)]
 L' := fun | L, () => L
 reads := [1002]
 tc := []
 st := fun p kk => match p with | L => opnA ([.one (.c (.loc 1002 0)), .one (.c (.tint .i64)), .one (.c (.tint .i64)), .one (.agg [.tint .i64, .tint .i64, .str, .tint .u64, .tint .u64])]) fun avs0 => kk avs0 [(1002, tbB)] (L)
 st_ok := fun L _ h => opnA_imp (fun _ h => Or.inr h) h
 cps := fun p kk => match p with | L => kk (.one (.c (.tint .i64))) [(1002, tbB)] (L)
 cur := fun L _ h () _ => (Or.inr (h ))
set_option maxHeartbeats 8000000 in
theorem sat_Error : Sat Tryz.prog tab 54 sError.spec := by
 refine sat_of ⟨tab, [(55, sNumber.spec), (59, sin.spec), (60, sKeyed.spec), (61, sValidKey.spec), (62, sUpdates.spec)], []⟩ (fun id => match assoc [(9, ⟨.take 0 (.take 1 (.step 2 (.take 3 (.take 4 (.take 5 (.take 6 (.take 7 (.take 9 (.take 13 (.take 8 (.take 10 (.take 11 (.step 12 (.take 14 (.take 15 (.done)))))))))))))))), [7, 1002], false, []⟩), (12, ⟨.take 0 (.take 1 (.step 2 (.take 3 (.take 4 (.take 5 (.take 6 (.take 7 (.take 9 (.take 8 (.take 10 (.take 11 (.step 12 (.take 13 (.take 14 (.take 15 (.done)))))))))))))))), [7, 1002], false, []⟩), (16, ⟨.take 0 (.take 1 (.step 2 (.take 3 (.take 4 (.take 5 (.take 6 (.take 8 (.take 7 (.take 9 (.take 10 (.take 11 (.step 12 (.take 13 (.take 14 (.done))))))))))))))), [7, 1002], false, []⟩), (18, ⟨.take 0 (.take 1 (.take 2 (.take 3 (.take 4 (.take 5 (.take 6 (.take 7 (.take 8 (.take 9 (.take 10 (.take 11 (.take 13 (.take 12 (.take 14 (.take 15 (.take 16 (.step 17 (.take 18 (.take 19 (.take 20 (.done))))))))))))))))))))), [7, 1002], false, []⟩)] id with | some p => p | none => ⟨.done, [], false, []⟩) mixed_ok tab_ok eq_nil (satall_cons sat_Number (satall_cons sat_in (satall_cons sat_Keyed (satall_cons sat_ValidKey (satall_cons sat_Updates sat_nil))))) Tryz.func54 rfl rfl sError ⟨fun L => rfl, fun L => ⟨rfl, rfl⟩, fun L _ => ⟨rfl, rfl⟩, fun L _ => rfl, rfl, rfl⟩ (N := 115) rfl (by kernel_rfl) (fun L => Nat.le_of_ble_eq_true rfl) ?_
 intro (L : Nat) hp
 repeat' (first | (with_reducible refine Pch.mk ?_; kernel_rfl) | (intro n hr h; replace h := h (by omega) (by omega); subst h) | (intro z hz; first | (replace hz := HZ.at hz (by omega) (by omega); subst hz) | (replace hz := HZ.no hz; subst hz) | (replace hz := HZ.yes hz; subst hz)) | (intro h; try (exfalso; first | contradiction | exact h True.intro)) | ((conv => whnf) <;> (first | (with_reducible refine WL.ex ?_) | (with_reducible refine WL.me ?_) | (with_reducible refine WL.mk ?_) | with_reducible refine And.intro ?_ ?_ | with_reducible exact True.intro | exact Eq.refl _)))
 all_goals (first | (first | assumption | contradiction | omega | ((try dsimp only [sError] at *); omega) | ((conv => whnf); (try show (_ : Nat) ≤ _); (try dsimp only); omega)) | ((conv => whnf); refine' ⟨(() : sError.δ), _, _, _, _⟩))
 all_goals (repeat' (first | exact True.intro | exact Eq.refl _ | exact Iff.refl _ | ((conv => whnf) <;> (first | (with_reducible refine WL.ex ?_) | (with_reducible refine WL.me ?_) | (with_reducible refine WL.mk ?_) | with_reducible refine And.intro ?_ ?_ | with_reducible refine Iff.intro ?_ ?_))))
 all_goals (first | assumption | contradiction | omega | ((try dsimp only [sError] at *); omega) | ((conv => whnf); (try show (_ : Nat) ≤ _); (try dsimp only); omega))
def scall : Fs where
 α := Nat × Int
 δ := Unit
 A := fun | (L, hd) => [.one (.c (.loc 1002 0)), .one (.agg [.tint .i64, .int .i64 hd, .str, .tint .u64, .tint .u64])]
 B := fun | (L, hd) => [(1002, tbB)]
 L := fun | (L, hd) => L
 get := fun avs bx L => match avs with | [_, .one (.agg [_, .int _ hd, _, _, _])] => some (L, hd) | _ => none
 pre := fun | (L, hd) => 0 ≤ hd ∧ hd ≤ 128 ∧ 64 ≤ L
 rel := fun | (L, hd), () => True
 R := fun | (L, hd), () => .one (.agg [.tint .i64, .tint .i64, .tbool, .tint .i64, .tint .i64, .tint .i64, .tint .i64, .tint .u64, .tint .u64, .str, .tint .u64, .tint .u64, .tint .i64, .tbool, .tbool, .sl 168 L, .sl 139 L, .tint .i64, .tbool, .tint .u64, .str, .tint .i64, .tint .i64, .tint .i64, .tbool])
 B' := fun | (L, hd), () => [(1002, tbB)]
 L' := fun | (L, hd), () => L
 reads := [1002]
 tc := []
 st := fun p kk => match p with | (L, hd) => opnA ([.one (.c (.loc 1002 0)), .one (.agg [.tint .i64, .int .i64 hd, .str, .tint .u64, .tint .u64])]) fun avs0 => kk avs0 [(1002, tbB)] (L)
 st_ok := fun ⟨L, hd⟩ _ h => opnA_imp (fun _ h => Or.inr h) h
 cps := fun p kk => match p with | (L, hd) => kk (.one (.agg [.tint .i64, .tint .i64, .tbool, .tint .i64, .tint .i64, .tint .i64, .tint .i64, .tint .u64, .tint .u64, .str, .tint .u64, .tint .u64, .tint .i64, .tbool, .tbool, .sl 168 L, .sl 139 L, .tint .i64, .tbool, .tint .u64, .str, .tint .i64, .tint .i64, .tint .i64, .tbool])) [(1002, tbB)] (L)
 cur := fun ⟨L, hd⟩ _ h () _ => (Or.inr (h ))
set_option maxHeartbeats 8000000 in
theorem sat_call : Sat Tryz.prog tab 57 scall.spec := by
 refine sat_of ⟨tab, [], []⟩ (fun id => match assoc [(1, ⟨.take 0 (.take 1 (.take 2 (.take 4 (.take 6 (.take 8 (.take 3 (.take 5 (.take 7 (.take 9 (.take 10 (.step 11 (.step 12 (.done))))))))))))), [3, 1002], false, []⟩), (3, ⟨.take 0 (.take 1 (.take 2 (.take 4 (.take 8 (.take 9 (.take 10 (.take 12 (.take 16 (.take 3 (.take 5 (.take 6 (.take 7 (.take 11 (.take 13 (.take 14 (.take 15 (.step 17 (.take 18 (.step 19 (.take 20 (.step 21 (.done)))))))))))))))))))))), [3, 1002], true, []⟩), (5, ⟨.take 0 (.take 1 (.take 2 (.take 4 (.take 3 (.take 5 (.take 6 (.step 7 (.take 8 (.step 9 (.done)))))))))), [3, 1002], false, []⟩), (11, ⟨.take 0 (.take 3 (.take 1 (.take 2 (.step 4 (.take 5 (.step 6 (.done))))))), [3], false, []⟩), (14, ⟨.take 0 (.take 3 (.take 1 (.take 2 (.step 4 (.take 5 (.step 6 (.done))))))), [3], false, []⟩)] id with | some p => p | none => ⟨.done, [], false, []⟩) mixed_ok tab_ok eq_nil sat_nil Tryz.func57 rfl rfl scall ⟨fun ⟨L, hd⟩ => rfl, fun ⟨L, hd⟩ => ⟨rfl, rfl⟩, fun ⟨L, hd⟩ _ => ⟨rfl, rfl⟩, fun ⟨L, hd⟩ _ => rfl, rfl, rfl⟩ (N := 90) rfl (by kernel_rfl) (fun ⟨L, hd⟩ => Nat.le_of_ble_eq_true rfl) ?_
 intro p hp
 obtain ⟨L, hd⟩ := p
 obtain ⟨hh0, hh1, hL0⟩ := hp
 repeat' (first | (with_reducible refine Pch.mk ?_; kernel_rfl) | (intro n hr h; replace h := h (by omega) (by omega); subst h) | (intro z hz; first | (replace hz := HZ.at hz (by omega) (by omega); subst hz) | (replace hz := HZ.no hz; subst hz) | (replace hz := HZ.yes hz; subst hz)) | (intro h; try (exfalso; first | contradiction | exact h True.intro)) | ((conv => whnf) <;> (first | (with_reducible refine WL.ex ?_) | (with_reducible refine WL.me ?_) | (with_reducible refine WL.mk ?_) | with_reducible refine And.intro ?_ ?_ | with_reducible exact True.intro | exact Eq.refl _)))
 all_goals (first | (first | assumption | contradiction | omega | ((try dsimp only [scall] at *); omega) | ((conv => whnf); (try show (_ : Nat) ≤ _); (try dsimp only); omega)) | ((conv => whnf); refine' ⟨(() : scall.δ), _, _, _, _⟩))
 all_goals (repeat' (first | exact True.intro | exact Eq.refl _ | exact Iff.refl _ | ((conv => whnf) <;> (first | (with_reducible refine WL.ex ?_) | (with_reducible refine WL.me ?_) | (with_reducible refine WL.mk ?_) | with_reducible refine And.intro ?_ ?_ | with_reducible refine Iff.intro ?_ ?_))))
 all_goals (first | assumption | contradiction | omega | ((try dsimp only [scall] at *); omega) | ((conv => whnf); (try show (_ : Nat) ≤ _); (try dsimp only); omega))
end Tv
end Go.Proofs.YtpabdmcbahmjnaaGreat
