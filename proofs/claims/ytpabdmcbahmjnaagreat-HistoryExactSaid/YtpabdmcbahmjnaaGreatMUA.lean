/- Part of a proof: U1 U2 U3. -/
import Derived.Test.YtpabdmcbahmjnaaGreatMTE
namespace Go.Proofs.YtpabdmcbahmjnaaGreat
namespace Tv
open Go Go.RowKit
set_option linter.unusedSimpArgs false
set_option linter.unusedVariables false
def sKeyed : Fs where
 α := Nat
 δ := Unit
 A := fun | L => [.one (.c (.tint .i64))]
 B := fun | L => []
 L := fun | L => L
 get := fun avs bx L => some L
 pre := fun | L => True
 rel := fun | L, () => True
 R := fun | L, () => .one (.c .tbool)
 B' := fun | L, () => []
 L' := fun | L, () => L
 reads := []
 tc := []
 st := fun p kk => match p with | L => opnA ([.one (.c (.tint .i64))]) fun avs0 => opnB ([]) fun bx0 => kk avs0 bx0 (L)
 st_ok := fun L _ h => opnA_imp (fun _ h => Or.inl h) h
 cps := fun p kk => match p with | L => opnB ([]) fun bx0 => kk (.one (.c .tbool)) bx0 (L)
 cur := fun L _ h () _ => (Or.inl (h ))
theorem sat_Keyed : Sat Tryz.prog tab 60 sKeyed.spec := by
 refine sat_of ⟨tab, [], []⟩ (fun _ => ⟨.done, [], false, []⟩) mixed_ok tab_ok eq_nil sat_nil Tryz.func60 rfl rfl sKeyed ⟨fun L => rfl, fun L => ⟨rfl, rfl⟩, fun L _ => ⟨rfl, rfl⟩, fun L _ => rfl, rfl, rfl⟩ (N := 9) rfl (by kernel_rfl) (fun L => Nat.le_of_ble_eq_true rfl) ?_
 intro (L : Nat) hp
 repeat' (first | (with_reducible refine Pch.mk ?_; kernel_rfl) | (intro n hr h; replace h := h (by omega) (by omega); subst h) | (intro h; try (exfalso; first | contradiction | exact h True.intro)) | ((conv => whnf) <;> (first | (with_reducible refine WL.mk ?_) | with_reducible refine And.intro ?_ ?_ | with_reducible exact True.intro | exact Eq.refl _)))
 all_goals (first | ((try dsimp only at *); omega) | ((conv => whnf); refine ⟨(), True.intro, ?_, ?_, ?_⟩))
 all_goals (repeat' (first | exact True.intro | exact Eq.refl _ | exact Iff.refl _ | ((conv => whnf) <;> (first | (with_reducible refine WL.mk ?_) | with_reducible refine And.intro ?_ ?_ | with_reducible refine Iff.intro ?_ ?_))))
def hasP (b i : Int) : Prop := 0 ≤ i ∧ i < 64 ∧ xop .and .u64 (xop .shr .u64 b (xconv .u64 i)) 1 = 1
def sHas : Fs where
 α := Nat × Int × Int
 δ := Unit
 A := fun | (L, b, i) => [.one (.c (.int .u64 b)), .one (.c (.int .i64 i))]
 B := fun | (L, b, i) => []
 L := fun | (L, b, i) => L
 get := fun avs bx L => match avs with | [.one (.c (.int _ b)), .one (.c (.int _ i))] => some (L, b, i) | _ => none
 pre := fun | (L, b, i) => True
 rel := fun | (L, b, i), () => True
 R := fun | (L, b, i), () => .one (.c (.prop (hasP b i)))
 B' := fun | (L, b, i), () => []
 L' := fun | (L, b, i), () => L
 reads := []
 tc := []
 st := fun p kk => match p with | (L, b, i) => opnA ([.one (.c (.int .u64 b)), .one (.c (.int .i64 i))]) fun avs0 => opnB ([]) fun bx0 => kk avs0 bx0 (L)
 st_ok := fun ⟨L, b, i⟩ _ h => opnA_imp (fun _ h => Or.inl h) h
 cps := fun p kk => match p with | (L, b, i) => opnB ([]) fun bx0 => kk (.one (.c (.prop (hasP b i)))) bx0 (L)
 cur := fun ⟨L, b, i⟩ _ h () _ => (Or.inl (h ))
theorem sat_Has : Sat Tryz.prog tab 103 sHas.spec := by
 refine sat_of ⟨tab, [], []⟩ (fun _ => ⟨.done, [], false, []⟩) mixed_ok tab_ok eq_nil sat_nil Tryz.func103 rfl rfl sHas ⟨fun ⟨L, b, i⟩ => rfl, fun ⟨L, b, i⟩ => ⟨rfl, rfl⟩, fun ⟨L, b, i⟩ _ => ⟨rfl, rfl⟩, fun ⟨L, b, i⟩ _ => rfl, rfl, rfl⟩ (N := 19) rfl (by kernel_rfl) (fun ⟨L, b, i⟩ => Nat.le_of_ble_eq_true rfl) ?_
 intro p hp
 obtain ⟨L, b, i⟩ := p
 repeat' (first | (with_reducible refine Pch.mk ?_; kernel_rfl) | (intro n hr h; replace h := h (by omega) (by omega); subst h) | (intro h; try (exfalso; first | contradiction | exact h True.intro)) | ((conv => whnf) <;> (first | (with_reducible refine WL.mk ?_) | with_reducible refine And.intro ?_ ?_ | with_reducible exact True.intro | exact Eq.refl _)))
 all_goals (first | ((try dsimp only at *); omega) | ((conv => whnf); refine ⟨(), True.intro, ?_, ?_, ?_⟩))
 all_goals (repeat' (first | exact True.intro | exact Eq.refl _ | exact Iff.refl _ | ((conv => whnf) <;> (first | (with_reducible refine WL.mk ?_) | with_reducible refine And.intro ?_ ?_ | with_reducible refine Iff.intro ?_ ?_))))
 all_goals ((try dsimp only at *); try subst_vars; intro h)
 all_goals (first | exact h.elim | exact ⟨by omega, by omega, h⟩ | (obtain ⟨h1, h2, h3⟩ := h; first | omega | assumption))
noncomputable def cntP (b : Int) : Nat → Nat
 | 0 => 0
 | k + 1 => cntP b k + @ite Nat (hasP b k) (Classical.propDecidable _) 1 0
theorem cnt_yes {b : Int} {k : Nat} (h : hasP b k) : cntP b (k + 1) = cntP b k + 1 := by
 rw [cntP, if_pos h]
theorem cnt_no {b : Int} {k : Nat} (h : ¬ hasP b k) : cntP b (k + 1) = cntP b k := by
 rw [cntP, if_neg h]
 rfl
theorem cnt_le (b : Int) : ∀ k, cntP b k ≤ k
 | 0 => Nat.le_refl _
 | k + 1 => by
  have := cnt_le b k
  by_cases h : hasP b k
  ·rw [cnt_yes h]; omega
  ·rw [cnt_no h]; omega
theorem cnt_mono (b : Int) {k : Nat} : ∀ {m}, k ≤ m → cntP b k ≤ cntP b m
 | 0, h => by
  have : k = 0 := by omega
  subst this
  exact Nat.le_refl _
 | m + 1, h => by
  by_cases e : k = m + 1
  ·subst e; exact Nat.le_refl _
  ·have := cnt_mono b (show k ≤ m by omega)
   by_cases h : hasP b m
   ·rw [cnt_yes h]; omega
   ·rw [cnt_no h]; omega
theorem cnt_lt {b : Int} {k : Nat} (h : hasP b k) : cntP b k < cntP b 64 := by
 have h1 := cnt_yes h
 obtain ⟨_, h2, _⟩ := h
 have := cnt_mono b (show k + 1 ≤ 64 by omega)
 omega
noncomputable def posP (b i : Int) : Int := cntP b (min i 64).toNat
noncomputable def sPosition : Fs where
 α := Nat × Int × Int
 δ := Unit
 A := fun | (L, b, i) => [.one (.c (.int .u64 b)), .one (.c (.int .i64 i))]
 B := fun | (L, b, i) => []
 L := fun | (L, b, i) => L
 get := fun avs bx L => match avs with | [.one (.c (.int _ b)), .one (.c (.int _ i))] => some (L, b, i) | _ => none
 pre := fun | (L, b, i) => True
 rel := fun | (L, b, i), () => True
 R := fun | (L, b, i), () => .one (.c (.int .i64 (posP b i)))
 B' := fun | (L, b, i), () => []
 L' := fun | (L, b, i), () => L
 reads := []
 tc := []
 st := fun p kk => match p with | (L, b, i) => opnA ([.one (.c (.int .u64 b)), .one (.c (.int .i64 i))]) fun avs0 => opnB ([]) fun bx0 => kk avs0 bx0 (L)
 st_ok := fun ⟨L, b, i⟩ _ h => opnA_imp (fun _ h => Or.inl h) h
 cps := fun p kk => match p with | (L, b, i) => opnB ([]) fun bx0 => kk (.one (.c (.int .i64 (posP b i)))) bx0 (L)
 cur := fun ⟨L, b, i⟩ _ h () _ => (Or.inl (h ))
theorem sat_Position : Sat Tryz.prog tab 111 sPosition.spec := by
 refine sat_of ⟨tab, [(103, sHas.spec)], []⟩ (fun _ => ⟨.done, [], false, []⟩) mixed_ok tab_ok eq_nil (satall_cons sat_Has sat_nil) Tryz.func111 rfl rfl sPosition ⟨fun ⟨L, b, i⟩ => rfl, fun ⟨L, b, i⟩ => ⟨rfl, rfl⟩, fun ⟨L, b, i⟩ _ => ⟨rfl, rfl⟩, fun ⟨L, b, i⟩ _ => rfl, rfl, rfl⟩ (N := 22) rfl (by kernel_rfl) (fun ⟨L, b, i⟩ => Nat.le_of_ble_eq_true rfl) ?_
 intro p hp
 obtain ⟨L, b, i⟩ := p
 repeat' (first | (with_reducible refine Pch.mk ?_; kernel_rfl) | (intro n hr h; replace h := h (by omega) (by omega); subst h) | (intro h; try (exfalso; first | contradiction | exact h True.intro)) | ((conv => whnf) <;> (first | (with_reducible refine WL.mk ?_) | with_reducible refine And.intro ?_ ?_ | with_reducible exact True.intro | exact Eq.refl _)))
 (conv => whnf)
 refine ⟨Nat, fun k => ⟨[(0, ci .u64 b), (1, ci .i64 i), (5, ci .i64 (cntP b k)), (6, ci .i64 k)], [], L⟩, fun k => k ≤ 64 ∧ (k = 0 ∨ k ≤ i), fun k => 64 - k, ⟨0, ?_, ?_⟩, ?_⟩
 ·repeat' (first | exact True.intro | exact Eq.refl _ | exact Iff.refl _ | ((conv => whnf) <;> (first | (with_reducible refine WL.mk ?_) | with_reducible refine And.intro ?_ ?_ | with_reducible refine Iff.intro ?_ ?_)))
 ·exact ⟨by decide, .inl rfl⟩
 intro k hk
 obtain ⟨hk1, hk2⟩ := hk
 have hc := cnt_le b k
 repeat' (first | (with_reducible refine Pch.mk ?_; kernel_rfl) | (intro n hr h; replace h := h (by omega) (by omega); subst h) | (intro h; try (exfalso; first | contradiction | exact h True.intro)) | ((conv => whnf) <;> (first | (with_reducible refine WL.mk ?_) | with_reducible refine And.intro ?_ ?_ | with_reducible exact True.intro | exact Eq.refl _)))
 all_goals ((conv => whnf); first | refine ⟨(), True.intro, ?_, ?_, ?_⟩ | refine ⟨k + 1, ?_, ?_, ?_⟩)
 all_goals (repeat' (first | exact True.intro | exact Eq.refl _ | exact Iff.refl _ | ((conv => whnf) <;> (first | (with_reducible refine WL.mk ?_) | with_reducible refine And.intro ?_ ?_ | with_reducible refine Iff.intro ?_ ?_))))
 all_goals (try dsimp only)
 all_goals (first | omega | ((conv => whnf); first | (rw [cnt_yes ‹_›]; rfl) | (rw [cnt_no ‹_›]) | (unfold posP; congr 2; omega)))
def ndT (L : Nat) : List CV := [.tint .i64, .tint .i64, .tint .i64, .tint .u64, .sl 51 L, .tint .u64, .str, .tint .u64, .sl 139 L, .tint .i64, .tint .i64, .tint .i64, .tint .i64, .tint .i64]
def ndX (L : Nat) (k bm : Int) (nb : Nat) : List CV := [.int .i64 k, .tint .i64, .tint .i64, .int .u64 bm, .slice 51 nb, .tint .u64, .str, .tint .u64, .sl 139 L, .tint .i64, .tint .i64, .tint .i64, .tint .i64, .tint .i64]
def slLen : Option CV → Option Nat
 | some (.slice _ n) => some n
 | some .nils => some 0
 | _ => none
def sUpdates : Fs where
 α := Nat
 δ := Unit
 A := fun | L => [.one (.c (.tint .i64))]
 B := fun | L => []
 L := fun | L => L
 get := fun avs bx L => some L
 pre := fun | L => True
 rel := fun | L, () => True
 R := fun | L, () => .one (.c .tbool)
 B' := fun | L, () => []
 L' := fun | L, () => L
 reads := []
 tc := []
 st := fun p kk => match p with | L => opnA ([.one (.c (.tint .i64))]) fun avs0 => opnB ([]) fun bx0 => kk avs0 bx0 (L)
 st_ok := fun L _ h => opnA_imp (fun _ h => Or.inl h) h
 cps := fun p kk => match p with | L => opnB ([]) fun bx0 => kk (.one (.c .tbool)) bx0 (L)
 cur := fun L _ h () _ => (Or.inl (h ))
theorem sat_Updates : Sat Tryz.prog tab 62 sUpdates.spec := by
 refine sat_of ⟨tab, [], []⟩ (fun _ => ⟨.done, [], false, []⟩) mixed_ok tab_ok eq_nil sat_nil Tryz.func62 rfl rfl sUpdates ⟨fun L => rfl, fun L => ⟨rfl, rfl⟩, fun L _ => ⟨rfl, rfl⟩, fun L _ => rfl, rfl, rfl⟩ (N := 13) rfl (by kernel_rfl) (fun L => Nat.le_of_ble_eq_true rfl) ?_
 intro (L : Nat) hp
 repeat' (first | (with_reducible refine Pch.mk ?_; kernel_rfl) | (intro n hr h; replace h := h (by omega) (by omega); subst h) | (intro h; try (exfalso; first | contradiction | exact h True.intro)) | ((conv => whnf) <;> (first | (with_reducible refine WL.mk ?_) | with_reducible refine And.intro ?_ ?_ | with_reducible exact True.intro | exact Eq.refl _)))
 all_goals (first | (first | assumption | contradiction | omega | ((try dsimp only [sUpdates] at *); omega) | ((conv => whnf); (try show (_ : Nat) ≤ _); (try dsimp only); omega)) | ((conv => whnf); refine' ⟨(() : sUpdates.δ), _, _, _, _⟩))
 all_goals (repeat' (first | exact True.intro | exact Eq.refl _ | exact Iff.refl _ | ((conv => whnf) <;> (first | (with_reducible refine WL.mk ?_) | with_reducible refine And.intro ?_ ?_ | with_reducible refine Iff.intro ?_ ?_))))
 all_goals (first | assumption | contradiction | omega | ((try dsimp only [sUpdates] at *); omega) | ((conv => whnf); (try show (_ : Nat) ≤ _); (try dsimp only); omega))
def sValidKey : Fs where
 α := Nat
 δ := Unit
 A := fun | L => [.one (.c .str)]
 B := fun | L => []
 L := fun | L => L
 get := fun avs bx L => some L
 pre := fun | L => True
 rel := fun | L, () => True
 R := fun | L, () => .one (.c .tbool)
 B' := fun | L, () => []
 L' := fun | L, () => L
 reads := []
 tc := []
 st := fun p kk => match p with | L => opnA ([.one (.c .str)]) fun avs0 => opnB ([]) fun bx0 => kk avs0 bx0 (L)
 st_ok := fun L _ h => opnA_imp (fun _ h => Or.inl h) h
 cps := fun p kk => match p with | L => opnB ([]) fun bx0 => kk (.one (.c .tbool)) bx0 (L)
 cur := fun L _ h () _ => (Or.inl (h ))
theorem sat_ValidKey : Sat Tryz.prog tab 61 sValidKey.spec := by
 refine sat_of ⟨tab, [], []⟩ (fun _ => ⟨.done, [], false, []⟩) mixed_ok tab_ok eq_nil sat_nil Tryz.func61 rfl rfl sValidKey ⟨fun L => rfl, fun L => ⟨rfl, rfl⟩, fun L _ => ⟨rfl, rfl⟩, fun L _ => rfl, rfl, rfl⟩ (N := 6) rfl (by kernel_rfl) (fun L => Nat.le_of_ble_eq_true rfl) ?_
 intro (L : Nat) hp
 repeat' (first | (with_reducible refine Pch.mk ?_; kernel_rfl) | (intro n hr h; replace h := h (by omega) (by omega); subst h) | (intro h; try (exfalso; first | contradiction | exact h True.intro)) | ((conv => whnf) <;> (first | (with_reducible refine WL.mk ?_) | with_reducible refine And.intro ?_ ?_ | with_reducible exact True.intro | exact Eq.refl _)))
 all_goals (first | (first | assumption | contradiction | omega | ((try dsimp only [sValidKey] at *); omega) | ((conv => whnf); (try show (_ : Nat) ≤ _); (try dsimp only); omega)) | ((conv => whnf); refine' ⟨(() : sValidKey.δ), _, _, _, _⟩))
 all_goals (repeat' (first | exact True.intro | exact Eq.refl _ | exact Iff.refl _ | ((conv => whnf) <;> (first | (with_reducible refine WL.mk ?_) | with_reducible refine And.intro ?_ ?_ | with_reducible refine Iff.intro ?_ ?_))))
 all_goals (first | assumption | contradiction | omega | ((try dsimp only [sValidKey] at *); omega) | ((conv => whnf); (try show (_ : Nat) ≤ _); (try dsimp only); omega))
def sWith : Fs where
 α := Nat
 δ := Unit
 A := fun | L => [.one (.c (.tint .u64)), .one (.c (.tint .i64))]
 B := fun | L => []
 L := fun | L => L
 get := fun avs bx L => some L
 pre := fun | L => True
 rel := fun | L, () => True
 R := fun | L, () => .one (.c (.tint .u64))
 B' := fun | L, () => []
 L' := fun | L, () => L
 reads := []
 tc := []
 st := fun p kk => match p with | L => opnA ([.one (.c (.tint .u64)), .one (.c (.tint .i64))]) fun avs0 => opnB ([]) fun bx0 => kk avs0 bx0 (L)
 st_ok := fun L _ h => opnA_imp (fun _ h => Or.inl h) h
 cps := fun p kk => match p with | L => opnB ([]) fun bx0 => kk (.one (.c (.tint .u64))) bx0 (L)
 cur := fun L _ h () _ => (Or.inl (h ))
theorem sat_With : Sat Tryz.prog tab 123 sWith.spec := by
 refine sat_of ⟨tab, [], []⟩ (fun _ => ⟨.done, [], false, []⟩) mixed_ok tab_ok eq_nil sat_nil Tryz.func123 rfl rfl sWith ⟨fun L => rfl, fun L => ⟨rfl, rfl⟩, fun L _ => ⟨rfl, rfl⟩, fun L _ => rfl, rfl, rfl⟩ (N := 17) rfl (by kernel_rfl) (fun L => Nat.le_of_ble_eq_true rfl) ?_
 intro (L : Nat) hp
 repeat' (first | (with_reducible refine Pch.mk ?_; kernel_rfl) | (intro n hr h; replace h := h (by omega) (by omega); subst h) | (intro h; try (exfalso; first | contradiction | exact h True.intro)) | ((conv => whnf) <;> (first | (with_reducible refine WL.mk ?_) | with_reducible refine And.intro ?_ ?_ | with_reducible exact True.intro | exact Eq.refl _)))
 all_goals (first | (first | assumption | contradiction | omega | ((try dsimp only [sWith] at *); omega) | ((conv => whnf); (try show (_ : Nat) ≤ _); (try dsimp only); omega)) | ((conv => whnf); refine' ⟨(() : sWith.δ), _, _, _, _⟩))
 all_goals (repeat' (first | exact True.intro | exact Eq.refl _ | exact Iff.refl _ | ((conv => whnf) <;> (first | (with_reducible refine WL.mk ?_) | with_reducible refine And.intro ?_ ?_ | with_reducible refine Iff.intro ?_ ?_))))
 all_goals (first | assumption | contradiction | omega | ((try dsimp only [sWith] at *); omega) | ((conv => whnf); (try show (_ : Nat) ≤ _); (try dsimp only); omega))
noncomputable def sCount : Fs where
 α := Nat × Int
 δ := Unit
 A := fun | (L, b) => [.one (.c (.int .u64 b))]
 B := fun | (L, b) => []
 L := fun | (L, b) => L
 get := fun avs bx L => match avs with | [.one (.c (.int _ b))] => some (L, b) | _ => none
 pre := fun | (L, b) => True
 rel := fun | (L, b), () => True
 R := fun | (L, b), () => .one (.c (.int .i64 (cntP b 64)))
 B' := fun | (L, b), () => []
 L' := fun | (L, b), () => L
 reads := []
 tc := []
 st := fun p kk => match p with | (L, b) => opnA ([.one (.c (.int .u64 b))]) fun avs0 => opnB ([]) fun bx0 => kk avs0 bx0 (L)
 st_ok := fun ⟨L, b⟩ _ h => opnA_imp (fun _ h => Or.inl h) h
 cps := fun p kk => match p with | (L, b) => opnB ([]) fun bx0 => kk (.one (.c (.int .i64 (cntP b 64)))) bx0 (L)
 cur := fun ⟨L, b⟩ _ h () _ => (Or.inl (h ))
theorem sat_Count : Sat Tryz.prog tab 130 sCount.spec := by
 refine sat_of ⟨tab, [(111, sPosition.spec)], []⟩ (fun _ => ⟨.done, [], false, []⟩) mixed_ok tab_ok eq_nil (satall_cons sat_Position sat_nil) Tryz.func130 rfl rfl sCount ⟨fun ⟨L, b⟩ => rfl, fun ⟨L, b⟩ => ⟨rfl, rfl⟩, fun ⟨L, b⟩ _ => ⟨rfl, rfl⟩, fun ⟨L, b⟩ _ => rfl, rfl, rfl⟩ (N := 5) rfl (by kernel_rfl) (fun ⟨L, b⟩ => Nat.le_of_ble_eq_true rfl) ?_
 intro p hp
 obtain ⟨L, b⟩ := p
 repeat' (first | (with_reducible refine Pch.mk ?_; kernel_rfl) | (intro n hr h; replace h := h (by omega) (by omega); subst h) | (intro h; try (exfalso; first | contradiction | exact h True.intro)) | ((conv => whnf) <;> (first | (with_reducible refine WL.mk ?_) | with_reducible refine And.intro ?_ ?_ | with_reducible exact True.intro | exact Eq.refl _)))
 all_goals (first | (first | assumption | contradiction | omega | ((try dsimp only [sCount] at *); omega) | ((conv => whnf); (try show (_ : Nat) ≤ _); (try dsimp only); omega)) | ((conv => whnf); refine' ⟨(() : sCount.δ), _, _, _, _⟩))
 all_goals (repeat' (first | exact True.intro | exact Eq.refl _ | exact Iff.refl _ | ((conv => whnf) <;> (first | (with_reducible refine WL.mk ?_) | with_reducible refine And.intro ?_ ?_ | with_reducible refine Iff.intro ?_ ?_))))
 all_goals (first | assumption | contradiction | omega | ((try dsimp only [sCount] at *); omega) | ((conv => whnf); (try show (_ : Nat) ≤ _); (try dsimp only); omega))
def sMain : Fs where
 α := Nat
 δ := Unit
 A := fun | L => [.one (.agg (ndT L))]
 B := fun | L => []
 L := fun | L => L
 get := fun avs bx L => some L
 pre := fun | L => True
 rel := fun | L, () => True
 R := fun | L, () => .one (.c .tbool)
 B' := fun | L, () => []
 L' := fun | L, () => L
 reads := []
 tc := []
 st := fun p kk => match p with | L => opnA ([.one (.agg (ndT L))]) fun avs0 => opnB ([]) fun bx0 => kk avs0 bx0 (L)
 st_ok := fun L _ h => opnA_imp (fun _ h => Or.inl h) h
 cps := fun p kk => match p with | L => opnB ([]) fun bx0 => kk (.one (.c .tbool)) bx0 (L)
 cur := fun L _ h () _ => (Or.inl (h ))
theorem sat_Main : Sat Tryz.prog tab 104 sMain.spec := by
 refine sat_of ⟨tab, [], []⟩ (fun _ => ⟨.done, [], false, []⟩) mixed_ok tab_ok eq_nil sat_nil Tryz.func104 rfl rfl sMain ⟨fun L => rfl, fun L => ⟨rfl, rfl⟩, fun L _ => ⟨rfl, rfl⟩, fun L _ => rfl, rfl, rfl⟩ (N := 16) rfl (by kernel_rfl) (fun L => Nat.le_of_ble_eq_true rfl) ?_
 intro (L : Nat) hp
 repeat' (first | (with_reducible refine Pch.mk ?_; kernel_rfl) | (intro n hr h; replace h := h (by omega) (by omega); subst h) | (intro h; try (exfalso; first | contradiction | exact h True.intro)) | ((conv => whnf) <;> (first | (with_reducible refine WL.mk ?_) | with_reducible refine And.intro ?_ ?_ | with_reducible exact True.intro | exact Eq.refl _)))
 all_goals (first | (first | assumption | contradiction | omega | ((try dsimp only [sMain] at *); omega) | ((conv => whnf); (try show (_ : Nat) ≤ _); (try dsimp only); omega)) | ((conv => whnf); refine' ⟨(() : sMain.δ), _, _, _, _⟩))
 all_goals (repeat' (first | exact True.intro | exact Eq.refl _ | exact Iff.refl _ | ((conv => whnf) <;> (first | (with_reducible refine WL.mk ?_) | with_reducible refine And.intro ?_ ?_ | with_reducible refine Iff.intro ?_ ?_))))
 all_goals (first | assumption | contradiction | omega | ((try dsimp only [sMain] at *); omega) | ((conv => whnf); (try show (_ : Nat) ≤ _); (try dsimp only); omega))
def svalue : Fs where
 α := Nat
 δ := Unit
 A := fun | L => [.one (.c .tbool), .one (.c (.tint .u64))]
 B := fun | L => []
 L := fun | L => L
 get := fun avs bx L => some L
 pre := fun | L => True
 rel := fun | L, () => True
 R := fun | L, () => .one (.agg [.tint .i64, .tbool, .tint .u64, .str, .tint .i64, .tint .i64, .tint .i64, .tbool])
 B' := fun | L, () => []
 L' := fun | L, () => L
 reads := []
 tc := []
 st := fun p kk => match p with | L => opnA ([.one (.c .tbool), .one (.c (.tint .u64))]) fun avs0 => opnB ([]) fun bx0 => kk avs0 bx0 (L)
 st_ok := fun L _ h => opnA_imp (fun _ h => Or.inl h) h
 cps := fun p kk => match p with | L => opnB ([]) fun bx0 => kk (.one (.agg [.tint .i64, .tbool, .tint .u64, .str, .tint .i64, .tint .i64, .tint .i64, .tbool])) bx0 (L)
 cur := fun L _ h () _ => (Or.inl (h ))
theorem sat_value : Sat Tryz.prog tab 93 svalue.spec := by
 refine sat_of ⟨tab, [], []⟩ (fun _ => ⟨.done, [], false, []⟩) mixed_ok tab_ok eq_nil sat_nil Tryz.func93 rfl rfl svalue ⟨fun L => rfl, fun L => ⟨rfl, rfl⟩, fun L _ => ⟨rfl, rfl⟩, fun L _ => rfl, rfl, rfl⟩ (N := 8) rfl (by kernel_rfl) (fun L => Nat.le_of_ble_eq_true rfl) ?_
 intro (L : Nat) hp
 repeat' (first | (with_reducible refine Pch.mk ?_; kernel_rfl) | (intro n hr h; replace h := h (by omega) (by omega); subst h) | (intro h; try (exfalso; first | contradiction | exact h True.intro)) | ((conv => whnf) <;> (first | (with_reducible refine WL.mk ?_) | with_reducible refine And.intro ?_ ?_ | with_reducible exact True.intro | exact Eq.refl _)))
 all_goals (first | (first | assumption | contradiction | omega | ((try dsimp only [svalue] at *); omega) | ((conv => whnf); (try show (_ : Nat) ≤ _); (try dsimp only); omega)) | ((conv => whnf); refine' ⟨(() : svalue.δ), _, _, _, _⟩))
 all_goals (repeat' (first | exact True.intro | exact Eq.refl _ | exact Iff.refl _ | ((conv => whnf) <;> (first | (with_reducible refine WL.mk ?_) | with_reducible refine And.intro ?_ ?_ | with_reducible refine Iff.intro ?_ ?_))))
 all_goals (first | assumption | contradiction | omega | ((try dsimp only [svalue] at *); omega) | ((conv => whnf); (try show (_ : Nat) ≤ _); (try dsimp only); omega))
def srefRes : Fs where
 α := Nat
 δ := Unit
 A := fun | L => [.one (.c (.tint .i64)), .one (.c .tbool)]
 B := fun | L => []
 L := fun | L => L
 get := fun avs bx L => some L
 pre := fun | L => True
 rel := fun | L, () => True
 R := fun | L, () => .one (.agg [.tint .i64, .tbool, .tint .u64, .str, .tint .i64, .tint .i64, .tint .i64, .tbool])
 B' := fun | L, () => []
 L' := fun | L, () => L
 reads := []
 tc := []
 st := fun p kk => match p with | L => opnA ([.one (.c (.tint .i64)), .one (.c .tbool)]) fun avs0 => opnB ([]) fun bx0 => kk avs0 bx0 (L)
 st_ok := fun L _ h => opnA_imp (fun _ h => Or.inl h) h
 cps := fun p kk => match p with | L => opnB ([]) fun bx0 => kk (.one (.agg [.tint .i64, .tbool, .tint .u64, .str, .tint .i64, .tint .i64, .tint .i64, .tbool])) bx0 (L)
 cur := fun L _ h () _ => (Or.inl (h ))
theorem sat_refRes : Sat Tryz.prog tab 65 srefRes.spec := by
 refine sat_of ⟨tab, [], []⟩ (fun _ => ⟨.done, [], false, []⟩) mixed_ok tab_ok eq_nil sat_nil Tryz.func65 rfl rfl srefRes ⟨fun L => rfl, fun L => ⟨rfl, rfl⟩, fun L _ => ⟨rfl, rfl⟩, fun L _ => rfl, rfl, rfl⟩ (N := 8) rfl (by kernel_rfl) (fun L => Nat.le_of_ble_eq_true rfl) ?_
 intro (L : Nat) hp
 repeat' (first | (with_reducible refine Pch.mk ?_; kernel_rfl) | (intro n hr h; replace h := h (by omega) (by omega); subst h) | (intro h; try (exfalso; first | contradiction | exact h True.intro)) | ((conv => whnf) <;> (first | (with_reducible refine WL.mk ?_) | with_reducible refine And.intro ?_ ?_ | with_reducible exact True.intro | exact Eq.refl _)))
 all_goals (first | (first | assumption | contradiction | omega | ((try dsimp only [srefRes] at *); omega) | ((conv => whnf); (try show (_ : Nat) ≤ _); (try dsimp only); omega)) | ((conv => whnf); refine' ⟨(() : srefRes.δ), _, _, _, _⟩))
 all_goals (repeat' (first | exact True.intro | exact Eq.refl _ | exact Iff.refl _ | ((conv => whnf) <;> (first | (with_reducible refine WL.mk ?_) | with_reducible refine And.intro ?_ ?_ | with_reducible refine Iff.intro ?_ ?_))))
 all_goals (first | assumption | contradiction | omega | ((try dsimp only [srefRes] at *); omega) | ((conv => whnf); (try show (_ : Nat) ≤ _); (try dsimp only); omega))
def sSlice : Fs where
 α := Nat
 δ := Unit
 A := fun | L => [.one (.c (.tint .u64)), .one (.c (.tint .i64))]
 B := fun | L => []
 L := fun | L => L
 get := fun avs bx L => some L
 pre := fun | L => True
 rel := fun | L, () => True
 R := fun | L, () => .one (.c (.tint .i64))
 B' := fun | L, () => []
 L' := fun | L, () => L
 reads := []
 tc := []
 st := fun p kk => match p with | L => opnA ([.one (.c (.tint .u64)), .one (.c (.tint .i64))]) fun avs0 => opnB ([]) fun bx0 => kk avs0 bx0 (L)
 st_ok := fun L _ h => opnA_imp (fun _ h => Or.inl h) h
 cps := fun p kk => match p with | L => opnB ([]) fun bx0 => kk (.one (.c (.tint .i64))) bx0 (L)
 cur := fun L _ h () _ => (Or.inl (h ))
theorem sat_Slice : Sat Tryz.prog tab 88 sSlice.spec := by
 refine sat_of ⟨tab, [], []⟩ (fun _ => ⟨.done, [], false, []⟩) mixed_ok tab_ok eq_nil sat_nil Tryz.func88 rfl rfl sSlice ⟨fun L => rfl, fun L => ⟨rfl, rfl⟩, fun L _ => ⟨rfl, rfl⟩, fun L _ => rfl, rfl, rfl⟩ (N := 20) rfl (by kernel_rfl) (fun L => Nat.le_of_ble_eq_true rfl) ?_
 intro (L : Nat) hp
 repeat' (first | (with_reducible refine Pch.mk ?_; kernel_rfl) | (intro n hr h; replace h := h (by omega) (by omega); subst h) | (intro h; try (exfalso; first | contradiction | exact h True.intro)) | ((conv => whnf) <;> (first | (with_reducible refine WL.mk ?_) | with_reducible refine And.intro ?_ ?_ | with_reducible exact True.intro | exact Eq.refl _)))
 all_goals (first | (first | assumption | contradiction | omega | ((try dsimp only [sSlice] at *); omega) | ((conv => whnf); (try show (_ : Nat) ≤ _); (try dsimp only); omega)) | ((conv => whnf); refine' ⟨(() : sSlice.δ), _, _, _, _⟩) | ((conv => whnf); refine' ⟨Int, fun | l => ⟨[(0, .one (.c (.tint .u64))), (1, ci .i64 l)], [], L⟩, fun | l => 0 ≤ l ∧ l ≤ 10, fun | l => l.toNat, ⟨_, _, _⟩, _⟩))
 all_goals (repeat' (first | exact True.intro | exact Eq.refl _ | exact Iff.refl _ | ((conv => whnf) <;> (first | (with_reducible refine WL.mk ?_) | with_reducible refine And.intro ?_ ?_ | with_reducible refine Iff.intro ?_ ?_))))
 all_goals (first | (first | assumption | contradiction | omega | ((try dsimp only [sSlice] at *); omega) | ((conv => whnf); (try show (_ : Nat) ≤ _); (try dsimp only); omega)) | (rintro l ⟨hx1, hx2⟩; (repeat' (first | (with_reducible refine Pch.mk ?_; kernel_rfl) | (intro n hr h; replace h := h (by omega) (by omega); subst h) | (intro h; try (exfalso; first | contradiction | exact h True.intro)) | ((conv => whnf) <;> (first | (with_reducible refine WL.mk ?_) | with_reducible refine And.intro ?_ ?_ | with_reducible exact True.intro | exact Eq.refl _))))))
 all_goals (first | (first | assumption | contradiction | omega | ((try dsimp only [sSlice] at *); omega) | ((conv => whnf); (try show (_ : Nat) ≤ _); (try dsimp only); omega)) | ((conv => whnf); first | refine' ⟨(() : sSlice.δ), _, _, _, _⟩ | refine' ⟨_, _, _, _⟩))
 all_goals (repeat' (first | exact True.intro | exact Eq.refl _ | exact Iff.refl _ | ((conv => whnf) <;> (first | (with_reducible refine WL.mk ?_) | with_reducible refine And.intro ?_ ?_ | with_reducible refine Iff.intro ?_ ?_))))
 all_goals (first | assumption | contradiction | omega | ((try dsimp only [sSlice] at *); omega) | ((conv => whnf); (try show (_ : Nat) ≤ _); (try dsimp only); omega))
def sCommon : Fs where
 α := Nat
 δ := Int
 A := fun | L => [.one (.c (.tint .u64)), .one (.c (.tint .u64))]
 B := fun | L => []
 L := fun | L => L
 get := fun avs bx L => some L
 pre := fun | L => True
 rel := fun | L, r => 0 ≤ r ∧ r ≤ 11
 R := fun | L, r => .one (.c (.int .i64 r))
 B' := fun | L, r => []
 L' := fun | L, r => L
 reads := []
 tc := []
 st := fun p kk => match p with | L => opnA ([.one (.c (.tint .u64)), .one (.c (.tint .u64))]) fun avs0 => opnB ([]) fun bx0 => kk avs0 bx0 (L)
 st_ok := fun L _ h => opnA_imp (fun _ h => Or.inl h) h
 cps := fun p kk => match p with | L => ∀ r : Int, (0 ≤ r) → (r ≤ 11) → opnB ([]) fun bx0 => kk (.one (.c (.int .i64 r))) bx0 (L)
 cur := fun L _ h r ⟨h1, h2⟩ => (Or.inl (h r h1 h2))
theorem sat_Common : Sat Tryz.prog tab 134 sCommon.spec := by
 refine sat_of ⟨tab, [(88, sSlice.spec)], []⟩ (fun _ => ⟨.done, [], false, []⟩) mixed_ok tab_ok eq_nil (satall_cons sat_Slice sat_nil) Tryz.func134 rfl rfl sCommon ⟨fun L => rfl, fun L => ⟨rfl, rfl⟩, fun L r => ⟨rfl, rfl⟩, fun L r => rfl, rfl, rfl⟩ (N := 20) rfl (by kernel_rfl) (fun L => Nat.le_of_ble_eq_true rfl) ?_
 intro (L : Nat) hp
 repeat' (first | (with_reducible refine Pch.mk ?_; kernel_rfl) | (intro n hr h; replace h := h (by omega) (by omega); subst h) | (intro h; try (exfalso; first | contradiction | exact h True.intro)) | ((conv => whnf) <;> (first | (with_reducible refine WL.mk ?_) | with_reducible refine And.intro ?_ ?_ | with_reducible exact True.intro | exact Eq.refl _)))
 all_goals (first | (first | assumption | contradiction | omega | ((try dsimp only [sCommon] at *); omega) | ((conv => whnf); (try show (_ : Nat) ≤ _); (try dsimp only); omega)) | ((conv => whnf); refine' ⟨(_ : sCommon.δ), _, _, _, _⟩) | ((conv => whnf); refine' ⟨Int, fun | l => ⟨[(0, .one (.c (.tint .u64))), (1, .one (.c (.tint .u64))), (5, ci .i64 l)], [], L⟩, fun | l => 0 ≤ l ∧ l ≤ 11, fun | l => (11 - l).toNat, ⟨_, _, _⟩, _⟩))
 all_goals (repeat' (first | exact True.intro | exact Eq.refl _ | exact Iff.refl _ | ((conv => whnf) <;> (first | (with_reducible refine WL.mk ?_) | with_reducible refine And.intro ?_ ?_ | with_reducible refine Iff.intro ?_ ?_))))
 all_goals (first | (first | assumption | contradiction | omega | ((try dsimp only [sCommon] at *); omega) | ((conv => whnf); (try show (_ : Nat) ≤ _); (try dsimp only); omega)) | (rintro l ⟨hx1, hx2⟩; (repeat' (first | (with_reducible refine Pch.mk ?_; kernel_rfl) | (intro n hr h; replace h := h (by omega) (by omega); subst h) | (intro h; try (exfalso; first | contradiction | exact h True.intro)) | ((conv => whnf) <;> (first | (with_reducible refine WL.mk ?_) | with_reducible refine And.intro ?_ ?_ | with_reducible exact True.intro | exact Eq.refl _))))))
 all_goals (first | (first | assumption | contradiction | omega | ((try dsimp only [sCommon] at *); omega) | ((conv => whnf); (try show (_ : Nat) ≤ _); (try dsimp only); omega)) | ((conv => whnf); first | refine' ⟨(_ : sCommon.δ), _, _, _, _⟩ | refine' ⟨_, _, _, _⟩))
 all_goals (repeat' (first | exact True.intro | exact Eq.refl _ | exact Iff.refl _ | ((conv => whnf) <;> (first | (with_reducible refine WL.mk ?_) | with_reducible refine And.intro ?_ ?_ | with_reducible refine Iff.intro ?_ ?_))))
 all_goals (first | assumption | contradiction | omega | ((try dsimp only [sCommon] at *); omega) | ((conv => whnf); (try show (_ : Nat) ≤ _); (try dsimp only); omega))
def sPairsValid : Fs where
 α := Nat × Nat
 δ := Unit
 A := fun | (L, n) => [.one (.c (.slice 139 n))]
 B := fun | (L, n) => []
 L := fun | (L, n) => L
 get := fun avs bx L => match avs with | [.one (.c x)] => (match slLen (some x) with | some n => some (L, n) | none => none) | _ => none
 pre := fun | (L, n) => n ≤ 140737488355328
 rel := fun | (L, n), () => True
 R := fun | (L, n), () => .one (.c .tbool)
 B' := fun | (L, n), () => []
 L' := fun | (L, n), () => L
 reads := []
 tc := []
 st := fun p kk => match p with | (L, n) => opnA ([.one (.c (.slice 139 n))]) fun avs0 => opnB ([]) fun bx0 => kk avs0 bx0 (L)
 st_ok := fun ⟨L, n⟩ _ h => opnA_imp (fun _ h => Or.inl h) h
 cps := fun p kk => match p with | (L, n) => opnB ([]) fun bx0 => kk (.one (.c .tbool)) bx0 (L)
 cur := fun ⟨L, n⟩ _ h () _ => (Or.inl (h ))
theorem sat_PairsValid : Sat Tryz.prog tab 114 sPairsValid.spec := by
 refine sat_of ⟨tab, [], []⟩ (fun id => match assoc [(4, ⟨.take 0 (.take 1 (.take 2 (.take 3 (.take 5 (.take 6 (.take 7 (.take 8 (.take 9 (.fork 4 (.step 10 (.take 11 (.done))) 10 (.step 4 (.take 11 (.done)))))))))))), [], false, []⟩)] id with | some p => p | none => ⟨.done, [], false, []⟩) mixed_ok tab_ok eq_nil sat_nil Tryz.func114 rfl rfl sPairsValid ⟨fun ⟨L, n⟩ => rfl, fun ⟨L, n⟩ => ⟨rfl, rfl⟩, fun ⟨L, n⟩ _ => ⟨rfl, rfl⟩, fun ⟨L, n⟩ _ => rfl, rfl, rfl⟩ (N := 22) rfl (by kernel_rfl) (fun ⟨L, n⟩ => Nat.le_of_ble_eq_true rfl) ?_
 intro p hp
 obtain ⟨L, n⟩ := p
 have hp : n ≤ 140737488355328 := hp
 repeat' (first | (with_reducible refine Pch.mk ?_; kernel_rfl) | (intro n hr h; replace h := h (by omega) (by omega); subst h) | (intro h; try (exfalso; first | contradiction | exact h True.intro)) | ((conv => whnf) <;> (first | (with_reducible refine WL.mk ?_) | with_reducible refine And.intro ?_ ?_ | with_reducible exact True.intro | exact Eq.refl _)))
 all_goals (first | (first | assumption | contradiction | omega | ((try dsimp only [sPairsValid] at *); omega) | ((conv => whnf); (try show (_ : Nat) ≤ _); (try dsimp only); omega)) | ((conv => whnf); refine' ⟨(() : sPairsValid.δ), _, _, _, _⟩) | ((conv => whnf); refine' ⟨Int, fun | i => ⟨[(0, .one (.c (.slice 139 n))), (3, ci .i64 i)], [], L⟩, fun | i => 1 ≤ i ∧ i ≤ n + 1, fun | i => (n + 1 - i).toNat, ⟨_, _, _⟩, _⟩))
 all_goals (repeat' (first | exact True.intro | exact Eq.refl _ | exact Iff.refl _ | ((conv => whnf) <;> (first | (with_reducible refine WL.mk ?_) | with_reducible refine And.intro ?_ ?_ | with_reducible refine Iff.intro ?_ ?_))))
 all_goals (first | (first | assumption | contradiction | omega | ((try dsimp only [sPairsValid] at *); omega) | ((conv => whnf); (try show (_ : Nat) ≤ _); (try dsimp only); omega)) | (rintro i ⟨hx1, hx2⟩; (repeat' (first | (with_reducible refine Pch.mk ?_; kernel_rfl) | (intro n hr h; replace h := h (by omega) (by omega); subst h) | (intro h; try (exfalso; first | contradiction | exact h True.intro)) | ((conv => whnf) <;> (first | (with_reducible refine WL.mk ?_) | with_reducible refine And.intro ?_ ?_ | with_reducible exact True.intro | exact Eq.refl _))))))
 all_goals (first | (first | assumption | contradiction | omega | ((try dsimp only [sPairsValid] at *); omega) | ((conv => whnf); (try show (_ : Nat) ≤ _); (try dsimp only); omega)) | ((conv => whnf); first | refine' ⟨(() : sPairsValid.δ), _, _, _, _⟩ | refine' ⟨_, _, _, _⟩))
 all_goals (repeat' (first | exact True.intro | exact Eq.refl _ | exact Iff.refl _ | ((conv => whnf) <;> (first | (with_reducible refine WL.mk ?_) | with_reducible refine And.intro ?_ ?_ | with_reducible refine Iff.intro ?_ ?_))))
 all_goals (first | assumption | contradiction | omega | ((try dsimp only [sPairsValid] at *); omega) | ((conv => whnf); (try show (_ : Nat) ≤ _); (try dsimp only); omega))
def sFind : Fs where
 α := Nat
 δ := Unit
 A := fun | L => [.one (.c (.sl 139 L)), .one (.c .str)]
 B := fun | L => []
 L := fun | L => L
 get := fun avs bx L => some L
 pre := fun | L => L ≤ 137438953472
 rel := fun | L, () => True
 R := fun | L, () => .tup [.c (.tint .u64), .c .tbool]
 B' := fun | L, () => []
 L' := fun | L, () => L
 reads := []
 tc := []
 st := fun p kk => match p with | L => opnA ([.one (.c (.sl 139 L)), .one (.c .str)]) fun avs0 => opnB ([]) fun bx0 => kk avs0 bx0 (L)
 st_ok := fun L _ h => opnA_imp (fun _ h => Or.inl h) h
 cps := fun p kk => match p with | L => opnB ([]) fun bx0 => kk (.tup [.c (.tint .u64), .c .tbool]) bx0 (L)
 cur := fun L _ h () _ => (Or.inl (h ))
theorem sat_Find : Sat Tryz.prog tab 94 sFind.spec := by
 refine sat_of ⟨tab, [(114, sPairsValid.spec)], []⟩ (fun _ => ⟨.done, [], false, []⟩) mixed_ok tab_ok eq_nil (satall_cons sat_PairsValid sat_nil) Tryz.func94 rfl rfl sFind ⟨fun L => rfl, fun L => ⟨rfl, rfl⟩, fun L _ => ⟨rfl, rfl⟩, fun L _ => rfl, rfl, rfl⟩ (N := 29) rfl (by kernel_rfl) (fun L => Nat.le_of_ble_eq_true rfl) ?_
 intro (L : Nat) hp
 have hp : L ≤ 137438953472 := hp
 (conv => whnf); intro n hn1 hn2
 repeat' (first | (with_reducible refine Pch.mk ?_; kernel_rfl) | (intro n hr h; replace h := h (by omega) (by omega); subst h) | (intro h; try (exfalso; first | contradiction | exact h True.intro)) | ((conv => whnf) <;> (first | (with_reducible refine WL.mk ?_) | with_reducible refine And.intro ?_ ?_ | with_reducible exact True.intro | exact Eq.refl _)))
 all_goals (first | (first | assumption | contradiction | omega | ((try dsimp only [sFind] at *); omega) | ((conv => whnf); (try show (_ : Nat) ≤ _); (try dsimp only); omega)) | ((conv => whnf); refine' ⟨(() : sFind.δ), _, _, _, _⟩) | ((conv => whnf); refine' ⟨Int, fun | i => ⟨[(0, .one (.c (.slice 139 n))), (1, .one (.c .str)), (6, ci .i64 i)], [], L⟩, fun | i => 0 ≤ i ∧ i ≤ n, fun | i => (n - i).toNat, ⟨_, _, _⟩, _⟩))
 all_goals (repeat' (first | exact True.intro | exact Eq.refl _ | exact Iff.refl _ | ((conv => whnf) <;> (first | (with_reducible refine WL.mk ?_) | with_reducible refine And.intro ?_ ?_ | with_reducible refine Iff.intro ?_ ?_))))
 all_goals (first | (first | assumption | contradiction | omega | ((try dsimp only [sFind] at *); omega) | ((conv => whnf); (try show (_ : Nat) ≤ _); (try dsimp only); omega)) | (rintro i ⟨hx1, hx2⟩; (repeat' (first | (with_reducible refine Pch.mk ?_; kernel_rfl) | (intro n hr h; replace h := h (by omega) (by omega); subst h) | (intro h; try (exfalso; first | contradiction | exact h True.intro)) | ((conv => whnf) <;> (first | (with_reducible refine WL.mk ?_) | with_reducible refine And.intro ?_ ?_ | with_reducible exact True.intro | exact Eq.refl _))))))
 all_goals (first | (first | assumption | contradiction | omega | ((try dsimp only [sFind] at *); omega) | ((conv => whnf); (try show (_ : Nat) ≤ _); (try dsimp only); omega)) | ((conv => whnf); first | refine' ⟨(() : sFind.δ), _, _, _, _⟩ | refine' ⟨_, _, _, _⟩))
 all_goals (repeat' (first | exact True.intro | exact Eq.refl _ | exact Iff.refl _ | ((conv => whnf) <;> (first | (with_reducible refine WL.mk ?_) | with_reducible refine And.intro ?_ ?_ | with_reducible refine Iff.intro ?_ ?_))))
 all_goals (first | assumption | contradiction | omega | ((try dsimp only [sFind] at *); omega) | ((conv => whnf); (try show (_ : Nat) ≤ _); (try dsimp only); omega))
def swithout : Fs where
 α := Nat × Nat
 δ := Nat
 A := fun | (L, n) => [.one (.c (.slice 139 n)), .one (.c .str)]
 B := fun | (L, n) => []
 L := fun | (L, n) => L
 get := fun avs bx L => match avs with | [.one (.c x), _] => (match slLen (some x) with | some n => some (L, n) | none => none) | _ => none
 pre := fun | (L, n) => n ≤ L ∧ L ≤ 137438953472
 rel := fun | (L, n), r => r ≤ n
 R := fun | (L, n), r => .one (.c (.slice 139 r))
 B' := fun | (L, n), r => []
 L' := fun | (L, n), r => L
 reads := []
 tc := []
 st := fun p kk => match p with | (L, n) => opnA ([.one (.c (.slice 139 n)), .one (.c .str)]) fun avs0 => opnB ([]) fun bx0 => kk avs0 bx0 (L)
 st_ok := fun ⟨L, n⟩ _ h => opnA_imp (fun _ h => Or.inl h) h
 cps := fun p kk => match p with | (L, n) => ∀ r : Nat, (r ≤ n) → opnB ([]) fun bx0 => kk (.one (.c (.slice 139 r))) bx0 (L)
 cur := fun ⟨L, n⟩ _ h r h1 => (Or.inl (h r h1))
theorem sat_without : Sat Tryz.prog tab 133 swithout.spec := by
 refine sat_of ⟨tab, [], []⟩ (fun _ => ⟨.done, [], false, []⟩) mixed_ok tab_ok eq_nil sat_nil Tryz.func133 rfl rfl swithout ⟨fun ⟨L, n⟩ => rfl, fun ⟨L, n⟩ => ⟨rfl, rfl⟩, fun ⟨L, n⟩ r => ⟨rfl, rfl⟩, fun ⟨L, n⟩ r => rfl, rfl, rfl⟩ (N := 28) rfl (by kernel_rfl) (fun ⟨L, n⟩ => Nat.le_of_ble_eq_true rfl) ?_
 intro p hp
 obtain ⟨L, n⟩ := p
 have hp0 : n ≤ L ∧ L ≤ 137438953472 := hp
 obtain ⟨hp1, hp2⟩ := hp0
 repeat' (first | (with_reducible refine Pch.mk ?_; kernel_rfl) | (intro n hr h; replace h := h (by omega) (by omega); subst h) | (intro h; try (exfalso; first | contradiction | exact h True.intro)) | ((conv => whnf) <;> (first | (with_reducible refine WL.mk ?_) | with_reducible refine And.intro ?_ ?_ | with_reducible exact True.intro | exact Eq.refl _)))
 all_goals (first | (first | assumption | contradiction | omega | ((try dsimp only [swithout] at *); omega) | ((conv => whnf); (try show (_ : Nat) ≤ _); (try dsimp only); omega)) | ((conv => whnf); refine' ⟨(_ : swithout.δ), _, _, _, _⟩) | ((conv => whnf); refine' ⟨Int × Nat, fun | (i, r) => ⟨[(0, .one (.c (.slice 139 n))), (1, .one (.c .str)), (5, .one (.c (.slice 139 r))), (6, ci .i64 i)], [], L⟩, fun | (i, r) => 0 ≤ i ∧ i ≤ n ∧ (r : Int) ≤ i, fun | (i, r) => (n - i).toNat, ⟨(_, _), _, _⟩, _⟩))
 all_goals (repeat' (first | exact True.intro | exact Eq.refl _ | exact Iff.refl _ | ((conv => whnf) <;> (first | (with_reducible refine WL.mk ?_) | with_reducible refine And.intro ?_ ?_ | with_reducible refine Iff.intro ?_ ?_))))
 all_goals (first | (first | assumption | contradiction | omega | ((try dsimp only [swithout] at *); omega) | ((conv => whnf); (try show (_ : Nat) ≤ _); (try dsimp only); omega)) | (rintro ⟨i, r⟩ ⟨hx1, hx2, hx3⟩; (repeat' (first | (with_reducible refine Pch.mk ?_; kernel_rfl) | (intro n hr h; replace h := h (by omega) (by omega); subst h) | (intro h; try (exfalso; first | contradiction | exact h True.intro)) | ((conv => whnf) <;> (first | (with_reducible refine WL.mk ?_) | with_reducible refine And.intro ?_ ?_ | with_reducible exact True.intro | exact Eq.refl _))))))
 all_goals (first | (first | assumption | contradiction | omega | ((try dsimp only [swithout] at *); omega) | ((conv => whnf); (try show (_ : Nat) ≤ _); (try dsimp only); omega)) | ((conv => whnf); first | refine' ⟨(_ : swithout.δ), _, _, _, _⟩ | refine' ⟨(_, _), _, _, _⟩))
 all_goals (repeat' (first | exact True.intro | exact Eq.refl _ | exact Iff.refl _ | ((conv => whnf) <;> (first | (with_reducible refine WL.mk ?_) | with_reducible refine And.intro ?_ ?_ | with_reducible refine Iff.intro ?_ ?_))))
 all_goals (first | assumption | contradiction | omega | ((try dsimp only [swithout] at *); omega) | ((conv => whnf); (try show (_ : Nat) ≤ _); (try dsimp only); omega))
def swithp : Fs where
 α := Nat × Nat
 δ := Unit
 A := fun | (L, n) => [.one (.c (.slice 139 n)), .one (.agg [.str, .tint .u64])]
 B := fun | (L, n) => []
 L := fun | (L, n) => L
 get := fun avs bx L => match avs with | [.one (.c x), _] => (match slLen (some x) with | some n => some (L, n) | none => none) | _ => none
 pre := fun | (L, n) => n ≤ L ∧ L ≤ 137438953472
 rel := fun | (L, n), () => True
 R := fun | (L, n), () => .one (.c (.slice 139 (n + 1)))
 B' := fun | (L, n), () => []
 L' := fun | (L, n), () => max L (n + 1)
 reads := []
 tc := []
 st := fun p kk => match p with | (L, n) => opnA ([.one (.c (.slice 139 n)), .one (.agg [.str, .tint .u64])]) fun avs0 => opnB ([]) fun bx0 => kk avs0 bx0 (L)
 st_ok := fun ⟨L, n⟩ _ h => opnA_imp (fun _ h => Or.inl h) h
 cps := fun p kk => match p with | (L, n) => opnB ([]) fun bx0 => kk (.one (.c (.slice 139 (n + 1)))) bx0 (max L (n + 1))
 cur := fun ⟨L, n⟩ _ h () _ => (Or.inl (h ))
theorem sat_withp : Sat Tryz.prog tab 132 swithp.spec := by
 refine sat_of ⟨tab, [], []⟩ (fun id => match assoc [(3, ⟨.take 0 (.take 1 (.take 2 (.take 3 (.take 4 (.take 5 (.take 6 (.take 7 (.take 8 (.take 10 (.take 11 (.step 9 (.take 12 (.take 13 (.done)))))))))))))), [3], false, []⟩), (7, ⟨.take 0 (.take 4 (.take 5 (.take 6 (.take 1 (.step 2 (.step 3 (.step 7 (.take 8 (.done))))))))), [3], false, []⟩)] id with | some p => p | none => ⟨.done, [], false, []⟩) mixed_ok tab_ok eq_nil sat_nil Tryz.func132 rfl rfl swithp ⟨fun ⟨L, n⟩ => rfl, fun ⟨L, n⟩ => ⟨rfl, rfl⟩, fun ⟨L, n⟩ _ => ⟨rfl, rfl⟩, fun ⟨L, n⟩ _ => rfl, rfl, rfl⟩ (N := 41) rfl (by kernel_rfl) (fun ⟨L, n⟩ => Nat.le_of_ble_eq_true rfl) ?_
 intro p hp
 obtain ⟨L, n⟩ := p
 have hp0 : n ≤ L ∧ L ≤ 137438953472 := hp
 obtain ⟨hp1, hp2⟩ := hp0
 repeat' (first | (with_reducible refine Pch.mk ?_; kernel_rfl) | (intro n hr h; replace h := h (by omega) (by omega); subst h) | (intro h; try (exfalso; first | contradiction | exact h True.intro)) | ((conv => whnf) <;> (first | (with_reducible refine WL.mk ?_) | with_reducible refine And.intro ?_ ?_ | with_reducible exact True.intro | exact Eq.refl _)))
 all_goals (first | (first | assumption | contradiction | omega | ((try dsimp only [swithp] at *); omega) | ((conv => whnf); (try show (_ : Nat) ≤ _); (try dsimp only); omega)) | ((conv => whnf); refine' ⟨(() : swithp.δ), _, _, _, _⟩) | ((conv => whnf); refine' ⟨Int × Nat, fun | (i, r) => ⟨[(0, .one (.c (.slice 139 n))), (3, .one (.c (.loc 3 0))), (5, .one (.c (.slice 139 r))), (6, ci .i64 i)], [(3, [.str, .tint .u64])], L⟩, fun | (i, r) => 0 ≤ i ∧ i ≤ n ∧ (r : Int) = i, fun | (i, r) => (n - i).toNat, ⟨(_, _), _, _⟩, _⟩))
 all_goals (repeat' (first | exact True.intro | exact Eq.refl _ | exact Iff.refl _ | ((conv => whnf) <;> (first | (with_reducible refine WL.mk ?_) | with_reducible refine And.intro ?_ ?_ | with_reducible refine Iff.intro ?_ ?_))))
 all_goals (first | (first | assumption | contradiction | omega | ((try dsimp only [swithp] at *); omega) | ((conv => whnf); (try show (_ : Nat) ≤ _); (try dsimp only); omega)) | (rintro ⟨i, r⟩ ⟨hx1, hx2, hx3⟩; (repeat' (first | (with_reducible refine Pch.mk ?_; kernel_rfl) | (intro n hr h; replace h := h (by omega) (by omega); subst h) | (intro h; try (exfalso; first | contradiction | exact h True.intro)) | ((conv => whnf) <;> (first | (with_reducible refine WL.mk ?_) | with_reducible refine And.intro ?_ ?_ | with_reducible exact True.intro | exact Eq.refl _))))))
 all_goals (first | (first | assumption | contradiction | omega | ((try dsimp only [swithp] at *); omega) | ((conv => whnf); (try show (_ : Nat) ≤ _); (try dsimp only); omega)) | ((conv => whnf); first | refine' ⟨(() : swithp.δ), _, _, _, _⟩ | refine' ⟨(_, _), _, _, _⟩))
 all_goals (repeat' (first | exact True.intro | exact Eq.refl _ | exact Iff.refl _ | ((conv => whnf) <;> (first | (with_reducible refine WL.mk ?_) | with_reducible refine And.intro ?_ ?_ | with_reducible refine Iff.intro ?_ ?_))))
 all_goals (first | assumption | contradiction | omega | ((try dsimp only [swithp] at *); omega) | ((conv => whnf); (try show (_ : Nat) ≤ _); (try dsimp only); omega))
def sPut : Fs where
 α := Nat
 δ := Nat
 A := fun | L => [.one (.c (.sl 139 L)), .one (.c .str), .one (.c (.tint .u64))]
 B := fun | L => []
 L := fun | L => L
 get := fun avs bx L => some L
 pre := fun | L => L ≤ 137438953471
 rel := fun | L, L2 => L ≤ L2 ∧ L2 ≤ L + 1
 R := fun | L, L2 => .one (.c (.sl 139 L2))
 B' := fun | L, L2 => []
 L' := fun | L, L2 => L2
 reads := []
 tc := []
 st := fun p kk => match p with | L => opnA ([.one (.c (.sl 139 L)), .one (.c .str), .one (.c (.tint .u64))]) fun avs0 => opnB ([]) fun bx0 => kk avs0 bx0 (L)
 st_ok := fun L _ h => opnA_imp (fun _ h => Or.inl h) h
 cps := fun p kk => match p with | L => ∀ L2 : Nat, (L ≤ L2) → (L2 ≤ L + 1) → opnB ([]) fun bx0 => kk (.one (.c (.sl 139 L2))) bx0 (L2)
 cur := fun L _ h L2 ⟨h1, h2⟩ => (Or.inl (h L2 h1 h2))
theorem sat_Put : Sat Tryz.prog tab 125 sPut.spec := by
 refine sat_of ⟨tab, [(114, sPairsValid.spec), (133, swithout.spec), (132, swithp.spec)], []⟩ (fun _ => ⟨.done, [], false, []⟩) mixed_ok tab_ok eq_nil (satall_cons sat_PairsValid (satall_cons sat_without (satall_cons sat_withp sat_nil))) Tryz.func125 rfl rfl sPut ⟨fun L => rfl, fun L => ⟨rfl, rfl⟩, fun L L2 => ⟨rfl, rfl⟩, fun L L2 => rfl, rfl, rfl⟩ (N := 17) rfl (by kernel_rfl) (fun L => Nat.le_of_ble_eq_true rfl) ?_
 intro (L : Nat) hp
 have hp : L ≤ 137438953471 := hp
 (conv => whnf); intro n hn1 hn2
 repeat' (first | (with_reducible refine Pch.mk ?_; kernel_rfl) | (intro n hr h; replace h := h (by omega) (by omega); subst h) | (intro h; try (exfalso; first | contradiction | exact h True.intro)) | ((conv => whnf) <;> (first | (with_reducible refine WL.mk ?_) | with_reducible refine And.intro ?_ ?_ | with_reducible exact True.intro | exact Eq.refl _)))
 all_goals (first | (first | assumption | contradiction | omega | ((try dsimp only [sPut] at *); omega) | ((conv => whnf); (try show (_ : Nat) ≤ _); (try dsimp only); omega)) | ((conv => whnf); refine' ⟨(_ : sPut.δ), _, _, _, _⟩))
 all_goals (repeat' (first | exact True.intro | exact Eq.refl _ | exact Iff.refl _ | ((conv => whnf) <;> (first | (with_reducible refine WL.mk ?_) | with_reducible refine And.intro ?_ ?_ | with_reducible refine Iff.intro ?_ ?_))))
 all_goals (first | assumption | contradiction | omega | ((try dsimp only [sPut] at *); omega) | ((conv => whnf); (try show (_ : Nat) ≤ _); (try dsimp only); omega))
def sDrop : Fs where
 α := Nat
 δ := Nat
 A := fun | L => [.one (.c (.sl 139 L)), .one (.c .str)]
 B := fun | L => []
 L := fun | L => L
 get := fun avs bx L => some L
 pre := fun | L => L ≤ 137438953471
 rel := fun | L, m => m ≤ L
 R := fun | L, m => .one (.c (.slice 139 m))
 B' := fun | L, m => []
 L' := fun | L, m => L
 reads := []
 tc := []
 st := fun p kk => match p with | L => opnA ([.one (.c (.sl 139 L)), .one (.c .str)]) fun avs0 => opnB ([]) fun bx0 => kk avs0 bx0 (L)
 st_ok := fun L _ h => opnA_imp (fun _ h => Or.inl h) h
 cps := fun p kk => match p with | L => ∀ m : Nat, (m ≤ L) → opnB ([]) fun bx0 => kk (.one (.c (.slice 139 m))) bx0 (L)
 cur := fun L _ h m h1 => (Or.inl (h m h1))
theorem sat_Drop : Sat Tryz.prog tab 127 sDrop.spec := by
 refine sat_of ⟨tab, [(114, sPairsValid.spec), (133, swithout.spec)], []⟩ (fun _ => ⟨.done, [], false, []⟩) mixed_ok tab_ok eq_nil (satall_cons sat_PairsValid (satall_cons sat_without sat_nil)) Tryz.func127 rfl rfl sDrop ⟨fun L => rfl, fun L => ⟨rfl, rfl⟩, fun L m => ⟨rfl, rfl⟩, fun L m => rfl, rfl, rfl⟩ (N := 11) rfl (by kernel_rfl) (fun L => Nat.le_of_ble_eq_true rfl) ?_
 intro (L : Nat) hp
 have hp : L ≤ 137438953471 := hp
 (conv => whnf); intro n hn1 hn2
 repeat' (first | (with_reducible refine Pch.mk ?_; kernel_rfl) | (intro n hr h; replace h := h (by omega) (by omega); subst h) | (intro h; try (exfalso; first | contradiction | exact h True.intro)) | ((conv => whnf) <;> (first | (with_reducible refine WL.mk ?_) | with_reducible refine And.intro ?_ ?_ | with_reducible exact True.intro | exact Eq.refl _)))
 all_goals (first | (first | assumption | contradiction | omega | ((try dsimp only [sDrop] at *); omega) | ((conv => whnf); (try show (_ : Nat) ≤ _); (try dsimp only); omega)) | ((conv => whnf); refine' ⟨(_ : sDrop.δ), _, _, _, _⟩))
 all_goals (repeat' (first | exact True.intro | exact Eq.refl _ | exact Iff.refl _ | ((conv => whnf) <;> (first | (with_reducible refine WL.mk ?_) | with_reducible refine And.intro ?_ ?_ | with_reducible refine Iff.intro ?_ ?_))))
 all_goals (first | assumption | contradiction | omega | ((try dsimp only [sDrop] at *); omega) | ((conv => whnf); (try show (_ : Nat) ≤ _); (try dsimp only); omega))
def sOf : Fs where
 α := Nat × Nat
 δ := Nat × Nat
 A := fun | (L, n) => [.one (.c (.slice 139 n))]
 B := fun | (L, n) => []
 L := fun | (L, n) => L
 get := fun avs bx L => match avs with | [.one (.c x)] => (match slLen (some x) with | some n => some (L, n) | none => none) | _ => none
 pre := fun | (L, n) => n ≤ 137438953471 ∧ L ≤ 137438953471
 rel := fun | (L, n), (r, L2) => r ≤ n ∧ L ≤ L2 ∧ L2 ≤ max L n ∧ r ≤ L2
 R := fun | (L, n), (r, L2) => .one (.c (.slice 139 r))
 B' := fun | (L, n), (r, L2) => []
 L' := fun | (L, n), (r, L2) => L2
 reads := []
 tc := []
 st := fun p kk => match p with | (L, n) => opnA ([.one (.c (.slice 139 n))]) fun avs0 => opnB ([]) fun bx0 => kk avs0 bx0 (L)
 st_ok := fun ⟨L, n⟩ _ h => opnA_imp (fun _ h => Or.inl h) h
 cps := fun p kk => match p with | (L, n) => ∀ r : Nat, ∀ L2 : Nat, (r ≤ n) → (L ≤ L2) → (L2 ≤ max L n) → (r ≤ L2) → opnB ([]) fun bx0 => kk (.one (.c (.slice 139 r))) bx0 (L2)
 cur := fun ⟨L, n⟩ _ h ⟨r, L2⟩ ⟨h1, h2, h3, h4⟩ => (Or.inl (h r L2 h1 h2 h3 h4))
theorem sat_Of : Sat Tryz.prog tab 135 sOf.spec := by
 refine sat_of ⟨tab, [(133, swithout.spec), (132, swithp.spec)], []⟩ (fun id => match assoc [(5, ⟨.take 0 (.take 1 (.take 2 (.take 3 (.take 4 (.take 7 (.take 8 (.take 9 (.fork 5 (.fork 6 (.step 10 (.step 11 (.take 12 (.done)))) 10 (.step 6 (.step 11 (.take 12 (.done))))) 10 (.step 5 (.step 6 (.step 11 (.take 12 (.done))))))))))))), [], false, []⟩)] id with | some p => p | none => ⟨.done, [], false, []⟩) mixed_ok tab_ok eq_nil (satall_cons sat_without (satall_cons sat_withp sat_nil)) Tryz.func135 rfl rfl sOf ⟨fun ⟨L, n⟩ => rfl, fun ⟨L, n⟩ => ⟨rfl, rfl⟩, fun ⟨L, n⟩ ⟨r, L2⟩ => ⟨rfl, rfl⟩, fun ⟨L, n⟩ ⟨r, L2⟩ => rfl, rfl, rfl⟩ (N := 24) rfl (by kernel_rfl) (fun ⟨L, n⟩ => Nat.le_of_ble_eq_true rfl) ?_
 intro p hp
 obtain ⟨L, n⟩ := p
 have hp0 : n ≤ 137438953471 ∧ L ≤ 137438953471 := hp
 obtain ⟨hp1, hp2⟩ := hp0
 repeat' (first | (with_reducible refine Pch.mk ?_; kernel_rfl) | (intro n hr h; replace h := h (by omega) (by omega); subst h) | (intro h; try (exfalso; first | contradiction | exact h True.intro)) | ((conv => whnf) <;> (first | (with_reducible refine WL.mk ?_) | with_reducible refine And.intro ?_ ?_ | with_reducible exact True.intro | exact Eq.refl _)))
 all_goals (first | (first | assumption | contradiction | omega | ((try dsimp only [sOf] at *); omega) | ((conv => whnf); (try show (_ : Nat) ≤ _); (try dsimp only); omega)) | ((conv => whnf); refine' ⟨((_, _) : sOf.δ), _, _, _, _⟩) | ((conv => whnf); refine' ⟨Int × Nat × Nat, fun | (i, r, l) => ⟨[(0, .one (.c (.slice 139 n))), (3, .one (.c (.slice 139 r))), (4, ci .i64 i)], [], l⟩, fun | (i, r, l) => 0 ≤ i ∧ i ≤ n ∧ (r : Int) ≤ i ∧ r ≤ l ∧ L ≤ l ∧ l ≤ max L n, fun | (i, r, l) => (n - i).toNat, ⟨(_, _, _), _, _⟩, _⟩))
 all_goals (repeat' (first | exact True.intro | exact Eq.refl _ | exact Iff.refl _ | ((conv => whnf) <;> (first | (with_reducible refine WL.mk ?_) | with_reducible refine And.intro ?_ ?_ | with_reducible refine Iff.intro ?_ ?_))))
 all_goals (first | (first | assumption | contradiction | omega | ((try dsimp only [sOf] at *); omega) | ((conv => whnf); (try show (_ : Nat) ≤ _); (try dsimp only); omega)) | (rintro ⟨i, r, l⟩ ⟨hx1, hx2, hx3, hx4, hx5, hx6⟩; (repeat' (first | (with_reducible refine Pch.mk ?_; kernel_rfl) | (intro n hr h; replace h := h (by omega) (by omega); subst h) | (intro h; try (exfalso; first | contradiction | exact h True.intro)) | ((conv => whnf) <;> (first | (with_reducible refine WL.mk ?_) | with_reducible refine And.intro ?_ ?_ | with_reducible exact True.intro | exact Eq.refl _))))))
 all_goals (first | (first | assumption | contradiction | omega | ((try dsimp only [sOf] at *); omega) | ((conv => whnf); (try show (_ : Nat) ≤ _); (try dsimp only); omega)) | ((conv => whnf); first | refine' ⟨((_, _) : sOf.δ), _, _, _, _⟩ | refine' ⟨(_, _, _), _, _, _⟩))
 all_goals (repeat' (first | exact True.intro | exact Eq.refl _ | exact Iff.refl _ | ((conv => whnf) <;> (first | (with_reducible refine WL.mk ?_) | with_reducible refine And.intro ?_ ?_ | with_reducible refine Iff.intro ?_ ?_))))
 all_goals (first | assumption | contradiction | omega | ((try dsimp only [sOf] at *); omega) | ((conv => whnf); (try show (_ : Nat) ≤ _); (try dsimp only); omega))
end Tv
end Go.Proofs.YtpabdmcbahmjnaaGreat
