/- Reading, deciding, exchanging. -/
import Derived.Test.YtpabdmcbahmjnaaGreatMU8
namespace Go.Proofs.YtpabdmcbahmjnaaGreat
namespace Tv
open Go Go.RowKit
set_option linter.unusedSimpArgs false
set_option linter.unusedVariables false
def swinner : Fs where
 α := Nat × Nat × Nat × Nat × Nat × Int × Int × Int × Int × Int × Prop
 δ := Unit
 A := fun | (L, G, M, C, E, a, m, c, g, f, s) => [.one (.c (.loc 1001 0)), .one (.c (.tint .i64)), .one (.c (.tint .i64))]
 B := fun | (L, G, M, C, E, a, m, c, g, f, s) => [(1000, memB L), (1001, exB L G M C E a m c g f s)]
 L := fun | (L, G, M, C, E, a, m, c, g, f, s) => L
 get := fun avs bx L => exGet bx L
 pre := fun | (L, G, M, C, E, a, m, c, g, f, s) => XI L G M C E a m c g f ∧ L + 0 ≤ 137438950000
 rel := fun | (L, G, M, C, E, a, m, c, g, f, s), () => True
 R := fun | (L, G, M, C, E, a, m, c, g, f, s), () => .one (.c (.tint .i64))
 B' := fun | (L, G, M, C, E, a, m, c, g, f, s), () => [(1000, memB L), (1001, exB L G M C E a m c g f s)]
 L' := fun | (L, G, M, C, E, a, m, c, g, f, s), () => L
 reads := [1000, 1001]
 tc := [1000]
 st := fun p kk => match p with | (L, G, M, C, E, a, m, c, g, f, s) => opnA ([.one (.c (.loc 1001 0)), .one (.c (.tint .i64)), .one (.c (.tint .i64))]) fun avs0 => kk avs0 [(1000, memB L), (1001, exB L G M C E a m c g f (pz s = 0))] (L)
 st_ok := fun ⟨L, G, M, C, E, a, m, c, g, f, s⟩ _ h => opnA_imp (fun _ h => opE_st h) h
 cps := fun p kk => match p with | (L, G, M, C, E, a, m, c, g, f, s) => kk (.one (.c (.tint .i64))) ([(1000, memB L), (1001, exB L G M C E a m c g f s)]) (L)
 cur := fun ⟨L, G, M, C, E, a, m, c, g, f, s⟩ _ h () _ => opE_ok (h )
set_option maxHeartbeats 8000000 in
theorem sat_winner : Sat Tryz.prog tab 84 swinner.spec := by
 refine sat_of ⟨tab, [(81, sxnode.spec)], []⟩ (fun _ => ⟨.done, [], false, []⟩) mixed_ok tab_ok eq_nil (satall_cons sat_xnode sat_nil) Tryz.func84 rfl rfl swinner ⟨fun ⟨L, G, M, C, E, a, m, c, g, f, s⟩ => rfl, fun ⟨L, G, M, C, E, a, m, c, g, f, s⟩ => ⟨rfl, rfl⟩, fun ⟨L, G, M, C, E, a, m, c, g, f, s⟩ _ => ⟨rfl, rfl⟩, fun ⟨L, G, M, C, E, a, m, c, g, f, s⟩ _ => rfl, rfl, rfl⟩ (N := 17) rfl (by kernel_rfl) (fun ⟨L, G, M, C, E, a, m, c, g, f, s⟩ => Nat.le_of_ble_eq_true rfl) ?_
 intro p hp
 obtain ⟨L, G, M, C, E, a, m, c, g, f, s⟩ := p
 obtain ⟨hX, hL⟩ := hp
 have hz0 := pz_0 s
 have hz1 := pz_1 s
 repeat' (first | (with_reducible refine Pch.mk ?_; kernel_rfl) | (intro n hr h; replace h := h (by omega) (by omega); subst h) | (intro z hz; first | (replace hz := HZ.at hz (by omega) (by omega); subst hz) | (replace hz := HZ.no hz; subst hz) | (replace hz := HZ.yes hz; subst hz)) | (intro h; try (exfalso; first | contradiction | exact h True.intro)) | ((conv => whnf) <;> (first | (with_reducible refine WL.ex ?_) | (with_reducible refine WL.me ?_) | (with_reducible refine WL.mk ?_) | with_reducible refine And.intro ?_ ?_ | with_reducible exact True.intro | exact Eq.refl _)))
 all_goals (first | (first | assumption | contradiction | omega | exact pz_of | exact pz_yes | (intro hh; first | contradiction | exact True.intro | omega) | ((try dsimp only [swinner] at *); first | assumption | omega) | ((conv => whnf); (try show (_ : Nat) ≤ _); (try dsimp only); omega) | ((try dsimp only [swinner] at *); simp only [XI_iff, mu] at *; omega)) | ((conv => whnf); refine' ⟨(() : swinner.δ), _, _, _, _⟩))
 all_goals (repeat' (first | exact True.intro | exact Eq.refl _ | exact Iff.refl _ | ((conv => whnf) <;> (first | (with_reducible refine WL.ex ?_) | (with_reducible refine WL.me ?_) | (with_reducible refine WL.mk ?_) | with_reducible refine And.intro ?_ ?_ | with_reducible refine Iff.intro ?_ ?_))))
 all_goals (first | assumption | contradiction | omega | exact pz_of | exact pz_yes | (intro hh; first | contradiction | exact True.intro | omega) | ((try dsimp only [swinner] at *); first | assumption | omega) | ((conv => whnf); (try show (_ : Nat) ≤ _); (try dsimp only); omega) | ((try dsimp only [swinner] at *); simp only [XI_iff, mu] at *; omega))
def sroot : Fs where
 α := Nat × Nat × Nat × Nat × Nat × Int × Int × Int × Int × Int × Prop
 δ := Nat × Nat × Nat × Nat × Nat × Int × Int × Int × Int × Int × Int
 A := fun | (L, G, M, C, E, a, m, c, g, f, s) => [.one (.c (.loc 1001 0)), .one (.agg [.tint .i64, .tbool])]
 B := fun | (L, G, M, C, E, a, m, c, g, f, s) => [(1000, memB L), (1001, exB L G M C E a m c g f s)]
 L := fun | (L, G, M, C, E, a, m, c, g, f, s) => L
 get := fun avs bx L => exGet bx L
 pre := fun | (L, G, M, C, E, a, m, c, g, f, s) => XI L G M C E a m c g f ∧ L + 5 ≤ 137438950000
 rel := fun | (L, G, M, C, E, a, m, c, g, f, s), (L', G', M', C', E', a', m', c', g', f', z') => XI L' G' M' C' E' a' m' c' g' f' ∧ 0 ≤ z' ∧ z' ≤ 1 ∧ L ≤ L' ∧ mu G' a' f' + z' ≤ mu G a f ∧ (G' : Int) + f' ≤ G + f ∧ L' ≤ L + 5
 R := fun | (L, G, M, C, E, a, m, c, g, f, s), (L', G', M', C', E', a', m', c', g', f', z') => .one (.c (.tint .i64))
 B' := fun | (L, G, M, C, E, a, m, c, g, f, s), (L', G', M', C', E', a', m', c', g', f', z') => [(1000, memB L'), (1001, exB L' G' M' C' E' a' m' c' g' f' (z' = 0))]
 L' := fun | (L, G, M, C, E, a, m, c, g, f, s), (L', G', M', C', E', a', m', c', g', f', z') => L'
 reads := [1000, 1001]
 tc := [1000, 1001]
 st := fun p kk => match p with | (L, G, M, C, E, a, m, c, g, f, s) => opnA ([.one (.c (.loc 1001 0)), .one (.agg [.tint .i64, .tbool])]) fun avs0 => kk avs0 [(1000, memB L), (1001, exB L G M C E a m c g f (pz s = 0))] (L)
 st_ok := fun ⟨L, G, M, C, E, a, m, c, g, f, s⟩ _ h => opnA_imp (fun _ h => opE_st h) h
 cps := fun p kk => match p with | (L, G, M, C, E, a, m, c, g, f, s) => ∀ z : Int, HZ s z → ∀ L' : Nat, ∀ G' : Nat, ∀ M' : Nat, ∀ C' : Nat, ∀ E' : Nat, ∀ a' : Int, ∀ m' : Int, ∀ c' : Int, ∀ g' : Int, ∀ f' : Int, ∀ z' : Int, (XI L' G' M' C' E' a' m' c' g' f') → (0 ≤ z') → (z' ≤ 1) → (L ≤ L') → (mu G' a' f' + z' ≤ mu G a f) → ((G' : Int) + f' ≤ G + f) → (L' ≤ L + 5) → kk (.one (.c (.tint .i64))) ([(1000, memB L'), (1001, exB L' G' M' C' E' a' m' c' g' f' (z' = 0))]) (L')
 cur := fun ⟨L, G, M, C, E, a, m, c, g, f, s⟩ _ h ⟨L', G', M', C', E', a', m', c', g', f', z'⟩ ⟨h1, h2, h3, h4, h5, h6, h7⟩ => opE_ok (h (pz s) (pz_hz s) L' G' M' C' E' a' m' c' g' f' z' h1 h2 h3 h4 h5 h6 h7)
set_option maxHeartbeats 8000000 in
theorem sat_root : Sat Tryz.prog tab 105 sroot.spec := by
 refine sat_of ⟨tab, [(80, sload.spec), (81, sxnode.spec), (82, scas.spec), (84, swinner.spec)], []⟩ (fun _ => ⟨.done, [], false, []⟩) mixed_ok tab_ok eq_nil (satall_cons sat_load (satall_cons sat_xnode (satall_cons sat_cas (satall_cons sat_winner sat_nil)))) Tryz.func105 rfl rfl sroot ⟨fun ⟨L, G, M, C, E, a, m, c, g, f, s⟩ => rfl, fun ⟨L, G, M, C, E, a, m, c, g, f, s⟩ => ⟨rfl, rfl⟩, fun ⟨L, G, M, C, E, a, m, c, g, f, s⟩ ⟨L', G', M', C', E', a', m', c', g', f', z'⟩ => ⟨rfl, rfl⟩, fun ⟨L, G, M, C, E, a, m, c, g, f, s⟩ ⟨L', G', M', C', E', a', m', c', g', f', z'⟩ => rfl, rfl, rfl⟩ (N := 55) rfl (by kernel_rfl) (fun ⟨L, G, M, C, E, a, m, c, g, f, s⟩ => Nat.le_of_ble_eq_true rfl) ?_
 intro p hp
 obtain ⟨L, G, M, C, E, a, m, c, g, f, s⟩ := p
 obtain ⟨hX, hL⟩ := hp
 have hz0 := pz_0 s
 have hz1 := pz_1 s
 repeat' (first | (with_reducible refine Pch.mk ?_; kernel_rfl) | (intro n hr h; replace h := h (by omega) (by omega); subst h) | (intro z hz; first | (replace hz := HZ.at hz (by omega) (by omega); subst hz) | (replace hz := HZ.no hz; subst hz) | (replace hz := HZ.yes hz; subst hz)) | (intro h; try (exfalso; first | contradiction | exact h True.intro)) | ((conv => whnf) <;> (first | (with_reducible refine WL.ex ?_) | (with_reducible refine WL.me ?_) | (with_reducible refine WL.mk ?_) | with_reducible refine And.intro ?_ ?_ | with_reducible exact True.intro | exact Eq.refl _)))
 all_goals (first | (first | assumption | contradiction | omega | exact pz_of | exact pz_yes | (intro hh; first | contradiction | exact True.intro | omega) | ((try dsimp only [sroot] at *); first | assumption | omega) | ((conv => whnf); (try show (_ : Nat) ≤ _); (try dsimp only); omega)) | ((conv => whnf); refine' ⟨((_, _, _, _, _, _, _, _, _, _, _) : sroot.δ), _, _, _, _⟩))
 all_goals (repeat' (first | exact True.intro | exact Eq.refl _ | exact Iff.refl _ | ((conv => whnf) <;> (first | (with_reducible refine WL.ex ?_) | (with_reducible refine WL.me ?_) | (with_reducible refine WL.mk ?_) | with_reducible refine And.intro ?_ ?_ | with_reducible refine Iff.intro ?_ ?_))))
 all_goals (first | assumption | contradiction | omega | exact pz_of | exact pz_yes | (intro hh; first | contradiction | exact True.intro | omega) | ((try dsimp only [sroot] at *); first | assumption | omega) | ((conv => whnf); (try show (_ : Nat) ≤ _); (try dsimp only); omega))
def ssettle : Fs where
 α := Nat × Nat × Nat × Nat × Nat × Int × Int × Int × Int × Int × Prop
 δ := Nat × Nat × Nat × Nat × Nat × Int × Int × Int × Int × Int × Int
 A := fun | (L, G, M, C, E, a, m, c, g, f, s) => [.one (.c (.loc 1001 0)), .one (.agg [.tint .i64, .tbool]), .one (.c (.tint .i64)), .one (.c (.tint .i64))]
 B := fun | (L, G, M, C, E, a, m, c, g, f, s) => [(1000, memB L), (1001, exB L G M C E a m c g f s)]
 L := fun | (L, G, M, C, E, a, m, c, g, f, s) => L
 get := fun avs bx L => exGet bx L
 pre := fun | (L, G, M, C, E, a, m, c, g, f, s) => XI L G M C E a m c g f ∧ L + 16 ≤ 137438950000
 rel := fun | (L, G, M, C, E, a, m, c, g, f, s), (L', G', M', C', E', a', m', c', g', f', z') => XI L' G' M' C' E' a' m' c' g' f' ∧ 0 ≤ z' ∧ z' ≤ 1 ∧ L ≤ L' ∧ mu G' a' f' + z' ≤ mu G a f ∧ (G' : Int) + f' ≤ G + f ∧ L' ≤ L + 16
 R := fun | (L, G, M, C, E, a, m, c, g, f, s), (L', G', M', C', E', a', m', c', g', f', z') => .one (.c (.tint .i64))
 B' := fun | (L, G, M, C, E, a, m, c, g, f, s), (L', G', M', C', E', a', m', c', g', f', z') => [(1000, memB L'), (1001, exB L' G' M' C' E' a' m' c' g' f' (z' = 0))]
 L' := fun | (L, G, M, C, E, a, m, c, g, f, s), (L', G', M', C', E', a', m', c', g', f', z') => L'
 reads := [1000, 1001]
 tc := [1000, 1001]
 st := fun p kk => match p with | (L, G, M, C, E, a, m, c, g, f, s) => opnA ([.one (.c (.loc 1001 0)), .one (.agg [.tint .i64, .tbool]), .one (.c (.tint .i64)), .one (.c (.tint .i64))]) fun avs0 => kk avs0 [(1000, memB L), (1001, exB L G M C E a m c g f (pz s = 0))] (L)
 st_ok := fun ⟨L, G, M, C, E, a, m, c, g, f, s⟩ _ h => opnA_imp (fun _ h => opE_st h) h
 cps := fun p kk => match p with | (L, G, M, C, E, a, m, c, g, f, s) => ∀ z : Int, HZ s z → ∀ L' : Nat, ∀ G' : Nat, ∀ M' : Nat, ∀ C' : Nat, ∀ E' : Nat, ∀ a' : Int, ∀ m' : Int, ∀ c' : Int, ∀ g' : Int, ∀ f' : Int, ∀ z' : Int, (XI L' G' M' C' E' a' m' c' g' f') → (0 ≤ z') → (z' ≤ 1) → (L ≤ L') → (mu G' a' f' + z' ≤ mu G a f) → ((G' : Int) + f' ≤ G + f) → (L' ≤ L + 16) → kk (.one (.c (.tint .i64))) ([(1000, memB L'), (1001, exB L' G' M' C' E' a' m' c' g' f' (z' = 0))]) (L')
 cur := fun ⟨L, G, M, C, E, a, m, c, g, f, s⟩ _ h ⟨L', G', M', C', E', a', m', c', g', f', z'⟩ ⟨h1, h2, h3, h4, h5, h6, h7⟩ => opE_ok (h (pz s) (pz_hz s) L' G' M' C' E' a' m' c' g' f' z' h1 h2 h3 h4 h5 h6 h7)
set_option maxHeartbeats 8000000 in
theorem sat_settle : Sat Tryz.prog tab 79 ssettle.spec := by
 refine sat_of ⟨tab, [(81, sxnode.spec), (80, sload.spec), (104, sMain.spec), (105, sroot.spec), (82, scas.spec), (85, salloc.spec)], []⟩ (fun _ => ⟨.done, [], false, []⟩) mixed_ok tab_ok eq_nil (satall_cons sat_xnode (satall_cons sat_load (satall_cons sat_Main (satall_cons sat_root (satall_cons sat_cas (satall_cons sat_alloc sat_nil)))))) Tryz.func79 rfl rfl ssettle ⟨fun ⟨L, G, M, C, E, a, m, c, g, f, s⟩ => rfl, fun ⟨L, G, M, C, E, a, m, c, g, f, s⟩ => ⟨rfl, rfl⟩, fun ⟨L, G, M, C, E, a, m, c, g, f, s⟩ ⟨L', G', M', C', E', a', m', c', g', f', z'⟩ => ⟨rfl, rfl⟩, fun ⟨L, G, M, C, E, a, m, c, g, f, s⟩ ⟨L', G', M', C', E', a', m', c', g', f', z'⟩ => rfl, rfl, rfl⟩ (N := 93) rfl (by kernel_rfl) (fun ⟨L, G, M, C, E, a, m, c, g, f, s⟩ => Nat.le_of_ble_eq_true rfl) ?_
 intro p hp
 obtain ⟨L, G, M, C, E, a, m, c, g, f, s⟩ := p
 obtain ⟨hX, hL⟩ := hp
 have hz0 := pz_0 s
 have hz1 := pz_1 s
 repeat' (first | (with_reducible refine Pch.mk ?_; kernel_rfl) | (intro n hr h; replace h := h (by omega) (by omega); subst h) | (intro z hz; first | (replace hz := HZ.at hz (by omega) (by omega); subst hz) | (replace hz := HZ.no hz; subst hz) | (replace hz := HZ.yes hz; subst hz)) | (intro h; try (exfalso; first | contradiction | exact h True.intro)) | ((conv => whnf) <;> (first | (with_reducible refine WL.ex ?_) | (with_reducible refine WL.me ?_) | (with_reducible refine WL.mk ?_) | with_reducible refine And.intro ?_ ?_ | with_reducible exact True.intro | exact Eq.refl _)))
 all_goals (first | (first | assumption | contradiction | omega | exact pz_of | exact pz_yes | (intro hh; first | contradiction | exact True.intro | omega) | ((try dsimp only [ssettle] at *); first | assumption | omega) | ((conv => whnf); (try show (_ : Nat) ≤ _); (try dsimp only); omega)) | ((conv => whnf); refine' ⟨((_, _, _, _, _, _, _, _, _, _, _) : ssettle.δ), _, _, _, _⟩))
 all_goals (repeat' (first | exact True.intro | exact Eq.refl _ | exact Iff.refl _ | ((conv => whnf) <;> (first | (with_reducible refine WL.ex ?_) | (with_reducible refine WL.me ?_) | (with_reducible refine WL.mk ?_) | with_reducible refine And.intro ?_ ?_ | with_reducible refine Iff.intro ?_ ?_))))
 all_goals (first | assumption | contradiction | omega | exact pz_of | exact pz_yes | (intro hh; first | contradiction | exact True.intro | omega) | ((try dsimp only [ssettle] at *); first | assumption | omega) | ((conv => whnf); (try show (_ : Nat) ≤ _); (try dsimp only); omega))
def sread : Fs where
 α := Nat × Nat × Nat × Nat × Nat × Int × Int × Int × Int × Int × Prop
 δ := Nat × Nat × Nat × Nat × Nat × Int × Int × Int × Int × Int × Int
 A := fun | (L, G, M, C, E, a, m, c, g, f, s) => [.one (.c (.loc 1001 0)), .one (.agg [.tint .i64, .tbool]), .one (.c (.tint .i64))]
 B := fun | (L, G, M, C, E, a, m, c, g, f, s) => [(1000, memB L), (1001, exB L G M C E a m c g f s)]
 L := fun | (L, G, M, C, E, a, m, c, g, f, s) => L
 get := fun avs bx L => exGet bx L
 pre := fun | (L, G, M, C, E, a, m, c, g, f, s) => XI L G M C E a m c g f ∧ L + 20 ≤ 137438950000
 rel := fun | (L, G, M, C, E, a, m, c, g, f, s), (L', G', M', C', E', a', m', c', g', f', z') => XI L' G' M' C' E' a' m' c' g' f' ∧ 0 ≤ z' ∧ z' ≤ 1 ∧ L ≤ L' ∧ mu G' a' f' + z' ≤ mu G a f ∧ (G' : Int) + f' ≤ G + f ∧ L' ≤ L + 20
 R := fun | (L, G, M, C, E, a, m, c, g, f, s), (L', G', M', C', E', a', m', c', g', f', z') => .one (.c (.tint .i64))
 B' := fun | (L, G, M, C, E, a, m, c, g, f, s), (L', G', M', C', E', a', m', c', g', f', z') => [(1000, memB L'), (1001, exB L' G' M' C' E' a' m' c' g' f' (z' = 0))]
 L' := fun | (L, G, M, C, E, a, m, c, g, f, s), (L', G', M', C', E', a', m', c', g', f', z') => L'
 reads := [1000, 1001]
 tc := [1000, 1001]
 st := fun p kk => match p with | (L, G, M, C, E, a, m, c, g, f, s) => opnA ([.one (.c (.loc 1001 0)), .one (.agg [.tint .i64, .tbool]), .one (.c (.tint .i64))]) fun avs0 => kk avs0 [(1000, memB L), (1001, exB L G M C E a m c g f (pz s = 0))] (L)
 st_ok := fun ⟨L, G, M, C, E, a, m, c, g, f, s⟩ _ h => opnA_imp (fun _ h => opE_st h) h
 cps := fun p kk => match p with | (L, G, M, C, E, a, m, c, g, f, s) => ∀ z : Int, HZ s z → ∀ L' : Nat, ∀ G' : Nat, ∀ M' : Nat, ∀ C' : Nat, ∀ E' : Nat, ∀ a' : Int, ∀ m' : Int, ∀ c' : Int, ∀ g' : Int, ∀ f' : Int, ∀ z' : Int, (XI L' G' M' C' E' a' m' c' g' f') → (0 ≤ z') → (z' ≤ 1) → (L ≤ L') → (mu G' a' f' + z' ≤ mu G a f) → ((G' : Int) + f' ≤ G + f) → (L' ≤ L + 20) → kk (.one (.c (.tint .i64))) ([(1000, memB L'), (1001, exB L' G' M' C' E' a' m' c' g' f' (z' = 0))]) (L')
 cur := fun ⟨L, G, M, C, E, a, m, c, g, f, s⟩ _ h ⟨L', G', M', C', E', a', m', c', g', f', z'⟩ ⟨h1, h2, h3, h4, h5, h6, h7⟩ => opE_ok (h (pz s) (pz_hz s) L' G' M' C' E' a' m' c' g' f' z' h1 h2 h3 h4 h5 h6 h7)
set_option maxHeartbeats 8000000 in
theorem sat_read : Sat Tryz.prog tab 66 sread.spec := by
 refine sat_of ⟨tab, [(81, sxnode.spec), (80, sload.spec), (79, ssettle.spec)], []⟩ (fun id => match assoc [(1, ⟨.take 0 (.take 2 (.take 3 (.take 4 (.take 5 (.take 1 (.step 6 (.take 7 (.step 8 (.step 9 (.take 10 (.done))))))))))), [4], false, []⟩)] id with | some p => p | none => ⟨.done, [], false, []⟩) mixed_ok tab_ok eq_nil (satall_cons sat_xnode (satall_cons sat_load (satall_cons sat_settle sat_nil))) Tryz.func66 rfl rfl sread ⟨fun ⟨L, G, M, C, E, a, m, c, g, f, s⟩ => rfl, fun ⟨L, G, M, C, E, a, m, c, g, f, s⟩ => ⟨rfl, rfl⟩, fun ⟨L, G, M, C, E, a, m, c, g, f, s⟩ ⟨L', G', M', C', E', a', m', c', g', f', z'⟩ => ⟨rfl, rfl⟩, fun ⟨L, G, M, C, E, a, m, c, g, f, s⟩ ⟨L', G', M', C', E', a', m', c', g', f', z'⟩ => rfl, rfl, rfl⟩ (N := 17) rfl (by kernel_rfl) (fun ⟨L, G, M, C, E, a, m, c, g, f, s⟩ => Nat.le_of_ble_eq_true rfl) ?_
 intro p hp
 obtain ⟨L, G, M, C, E, a, m, c, g, f, s⟩ := p
 obtain ⟨hX, hL⟩ := hp
 have hz0 := pz_0 s
 have hz1 := pz_1 s
 repeat' (first | (with_reducible refine Pch.mk ?_; kernel_rfl) | (intro n hr h; replace h := h (by omega) (by omega); subst h) | (intro z hz; first | (replace hz := HZ.at hz (by omega) (by omega); subst hz) | (replace hz := HZ.no hz; subst hz) | (replace hz := HZ.yes hz; subst hz)) | (intro h; try (exfalso; first | contradiction | exact h True.intro)) | ((conv => whnf) <;> (first | (with_reducible refine WL.ex ?_) | (with_reducible refine WL.me ?_) | (with_reducible refine WL.mk ?_) | with_reducible refine And.intro ?_ ?_ | with_reducible exact True.intro | exact Eq.refl _)))
 all_goals (first | (first | assumption | contradiction | omega | exact pz_of | exact pz_yes | (intro hh; first | contradiction | exact True.intro | omega) | ((try dsimp only [sread] at *); first | assumption | omega) | ((conv => whnf); (try show (_ : Nat) ≤ _); (try dsimp only); omega)) | ((conv => whnf); refine' ⟨((_, _, _, _, _, _, _, _, _, _, _) : sread.δ), _, _, _, _⟩))
 all_goals (repeat' (first | exact True.intro | exact Eq.refl _ | exact Iff.refl _ | ((conv => whnf) <;> (first | (with_reducible refine WL.ex ?_) | (with_reducible refine WL.me ?_) | (with_reducible refine WL.mk ?_) | with_reducible refine And.intro ?_ ?_ | with_reducible refine Iff.intro ?_ ?_))))
 all_goals (first | assumption | contradiction | omega | exact pz_of | exact pz_yes | (intro hh; first | contradiction | exact True.intro | omega) | ((try dsimp only [sread] at *); first | assumption | omega) | ((conv => whnf); (try show (_ : Nat) ≤ _); (try dsimp only); omega))
def sdecide : Fs where
 α := Nat × Nat × Nat × Nat × Nat × Int × Int × Int × Int × Int × Prop
 δ := Nat × Nat × Nat × Nat × Nat × Int × Int × Int × Int × Int × Int
 A := fun | (L, G, M, C, E, a, m, c, g, f, s) => [.one (.c (.loc 1001 0)), .one (.agg [.tint .i64, .tbool]), .one (.c (.tint .i64))]
 B := fun | (L, G, M, C, E, a, m, c, g, f, s) => [(1000, memB L), (1001, exB L G M C E a m c g f s)]
 L := fun | (L, G, M, C, E, a, m, c, g, f, s) => L
 get := fun avs bx L => exGet bx L
 pre := fun | (L, G, M, C, E, a, m, c, g, f, s) => XI L G M C E a m c g f ∧ L + 24 ≤ 137438950000
 rel := fun | (L, G, M, C, E, a, m, c, g, f, s), (L', G', M', C', E', a', m', c', g', f', z') => XI L' G' M' C' E' a' m' c' g' f' ∧ 0 ≤ z' ∧ z' ≤ 1 ∧ L ≤ L' ∧ mu G' a' f' + z' ≤ mu G a f ∧ (G' : Int) + f' ≤ G + f ∧ L' ≤ L + 24
 R := fun | (L, G, M, C, E, a, m, c, g, f, s), (L', G', M', C', E', a', m', c', g', f', z') => .tup []
 B' := fun | (L, G, M, C, E, a, m, c, g, f, s), (L', G', M', C', E', a', m', c', g', f', z') => [(1000, memB L'), (1001, exB L' G' M' C' E' a' m' c' g' f' (z' = 0))]
 L' := fun | (L, G, M, C, E, a, m, c, g, f, s), (L', G', M', C', E', a', m', c', g', f', z') => L'
 reads := [1000, 1001]
 tc := [1000, 1001]
 st := fun p kk => match p with | (L, G, M, C, E, a, m, c, g, f, s) => opnA ([.one (.c (.loc 1001 0)), .one (.agg [.tint .i64, .tbool]), .one (.c (.tint .i64))]) fun avs0 => kk avs0 [(1000, memB L), (1001, exB L G M C E a m c g f (pz s = 0))] (L)
 st_ok := fun ⟨L, G, M, C, E, a, m, c, g, f, s⟩ _ h => opnA_imp (fun _ h => opE_st h) h
 cps := fun p kk => match p with | (L, G, M, C, E, a, m, c, g, f, s) => ∀ z : Int, HZ s z → ∀ L' : Nat, ∀ G' : Nat, ∀ M' : Nat, ∀ C' : Nat, ∀ E' : Nat, ∀ a' : Int, ∀ m' : Int, ∀ c' : Int, ∀ g' : Int, ∀ f' : Int, ∀ z' : Int, (XI L' G' M' C' E' a' m' c' g' f') → (0 ≤ z') → (z' ≤ 1) → (L ≤ L') → (mu G' a' f' + z' ≤ mu G a f) → ((G' : Int) + f' ≤ G + f) → (L' ≤ L + 24) → kk (.tup []) ([(1000, memB L'), (1001, exB L' G' M' C' E' a' m' c' g' f' (z' = 0))]) (L')
 cur := fun ⟨L, G, M, C, E, a, m, c, g, f, s⟩ _ h ⟨L', G', M', C', E', a', m', c', g', f', z'⟩ ⟨h1, h2, h3, h4, h5, h6, h7⟩ => opE_ok (h (pz s) (pz_hz s) L' G' M' C' E' a' m' c' g' f' z' h1 h2 h3 h4 h5 h6 h7)
set_option maxHeartbeats 8000000 in
theorem sat_decide : Sat Tryz.prog tab 83 sdecide.spec := by
 refine sat_of ⟨tab, [(81, sxnode.spec), (66, sread.spec), (82, scas.spec)], []⟩ (fun id => match assoc [(2, ⟨.take 0 (.take 2 (.take 3 (.take 7 (.take 8 (.take 1 (.step 4 (.take 5 (.step 6 (.step 9 (.take 10 (.take 11 (.done)))))))))))), [4], false, []⟩)] id with | some p => p | none => ⟨.done, [], false, []⟩) mixed_ok tab_ok eq_nil (satall_cons sat_xnode (satall_cons sat_read (satall_cons sat_cas sat_nil))) Tryz.func83 rfl rfl sdecide ⟨fun ⟨L, G, M, C, E, a, m, c, g, f, s⟩ => rfl, fun ⟨L, G, M, C, E, a, m, c, g, f, s⟩ => ⟨rfl, rfl⟩, fun ⟨L, G, M, C, E, a, m, c, g, f, s⟩ ⟨L', G', M', C', E', a', m', c', g', f', z'⟩ => ⟨rfl, rfl⟩, fun ⟨L, G, M, C, E, a, m, c, g, f, s⟩ ⟨L', G', M', C', E', a', m', c', g', f', z'⟩ => rfl, rfl, rfl⟩ (N := 26) rfl (by kernel_rfl) (fun ⟨L, G, M, C, E, a, m, c, g, f, s⟩ => Nat.le_of_ble_eq_true rfl) ?_
 intro p hp
 obtain ⟨L, G, M, C, E, a, m, c, g, f, s⟩ := p
 obtain ⟨hX, hL⟩ := hp
 have hz0 := pz_0 s
 have hz1 := pz_1 s
 repeat' (first | (with_reducible refine Pch.mk ?_; kernel_rfl) | (intro n hr h; replace h := h (by omega) (by omega); subst h) | (intro z hz; first | (replace hz := HZ.at hz (by omega) (by omega); subst hz) | (replace hz := HZ.no hz; subst hz) | (replace hz := HZ.yes hz; subst hz)) | (intro h; try (exfalso; first | contradiction | exact h True.intro)) | ((conv => whnf) <;> (first | (with_reducible refine WL.ex ?_) | (with_reducible refine WL.me ?_) | (with_reducible refine WL.mk ?_) | with_reducible refine And.intro ?_ ?_ | with_reducible exact True.intro | exact Eq.refl _)))
 all_goals (first | (first | assumption | contradiction | omega | exact pz_of | exact pz_yes | (intro hh; first | contradiction | exact True.intro | omega) | ((try dsimp only [sdecide] at *); first | assumption | omega) | ((conv => whnf); (try show (_ : Nat) ≤ _); (try dsimp only); omega)) | ((conv => whnf); refine' ⟨((_, _, _, _, _, _, _, _, _, _, _) : sdecide.δ), _, _, _, _⟩))
 all_goals (repeat' (first | exact True.intro | exact Eq.refl _ | exact Iff.refl _ | ((conv => whnf) <;> (first | (with_reducible refine WL.ex ?_) | (with_reducible refine WL.me ?_) | (with_reducible refine WL.mk ?_) | with_reducible refine And.intro ?_ ?_ | with_reducible refine Iff.intro ?_ ?_))))
 all_goals (first | assumption | contradiction | omega | exact pz_of | exact pz_yes | (intro hh; first | contradiction | exact True.intro | omega) | ((try dsimp only [sdecide] at *); first | assumption | omega) | ((conv => whnf); (try show (_ : Nat) ≤ _); (try dsimp only); omega))
def shelp : Fs where
 α := Nat × Nat × Nat × Nat × Nat × Int × Int × Int × Int × Int × Prop
 δ := Nat × Nat × Nat × Nat × Nat × Int × Int × Int × Int × Int × Int
 A := fun | (L, G, M, C, E, a, m, c, g, f, s) => [.one (.c (.loc 1001 0)), .one (.agg [.tint .i64, .tbool])]
 B := fun | (L, G, M, C, E, a, m, c, g, f, s) => [(1000, memB L), (1001, exB L G M C E a m c g f s)]
 L := fun | (L, G, M, C, E, a, m, c, g, f, s) => L
 get := fun avs bx L => exGet bx L
 pre := fun | (L, G, M, C, E, a, m, c, g, f, s) => XI L G M C E a m c g f ∧ L + 32 ≤ 137438950000
 rel := fun | (L, G, M, C, E, a, m, c, g, f, s), (L', G', M', C', E', a', m', c', g', f', z') => XI L' G' M' C' E' a' m' c' g' f' ∧ 0 ≤ z' ∧ z' ≤ 1 ∧ L ≤ L' ∧ mu G' a' f' + z' ≤ mu G a f ∧ (G' : Int) + f' ≤ G + f ∧ L' ≤ L + 32
 R := fun | (L, G, M, C, E, a, m, c, g, f, s), (L', G', M', C', E', a', m', c', g', f', z') => .one (.c (.tint .i64))
 B' := fun | (L, G, M, C, E, a, m, c, g, f, s), (L', G', M', C', E', a', m', c', g', f', z') => [(1000, memB L'), (1001, exB L' G' M' C' E' a' m' c' g' f' (z' = 0))]
 L' := fun | (L, G, M, C, E, a, m, c, g, f, s), (L', G', M', C', E', a', m', c', g', f', z') => L'
 reads := [1000, 1001]
 tc := [1000, 1001]
 st := fun p kk => match p with | (L, G, M, C, E, a, m, c, g, f, s) => opnA ([.one (.c (.loc 1001 0)), .one (.agg [.tint .i64, .tbool])]) fun avs0 => kk avs0 [(1000, memB L), (1001, exB L G M C E a m c g f (pz s = 0))] (L)
 st_ok := fun ⟨L, G, M, C, E, a, m, c, g, f, s⟩ _ h => opnA_imp (fun _ h => opE_st h) h
 cps := fun p kk => match p with | (L, G, M, C, E, a, m, c, g, f, s) => ∀ z : Int, HZ s z → ∀ L' : Nat, ∀ G' : Nat, ∀ M' : Nat, ∀ C' : Nat, ∀ E' : Nat, ∀ a' : Int, ∀ m' : Int, ∀ c' : Int, ∀ g' : Int, ∀ f' : Int, ∀ z' : Int, (XI L' G' M' C' E' a' m' c' g' f') → (0 ≤ z') → (z' ≤ 1) → (L ≤ L') → (mu G' a' f' + z' ≤ mu G a f) → ((G' : Int) + f' ≤ G + f) → (L' ≤ L + 32) → kk (.one (.c (.tint .i64))) ([(1000, memB L'), (1001, exB L' G' M' C' E' a' m' c' g' f' (z' = 0))]) (L')
 cur := fun ⟨L, G, M, C, E, a, m, c, g, f, s⟩ _ h ⟨L', G', M', C', E', a', m', c', g', f', z'⟩ ⟨h1, h2, h3, h4, h5, h6, h7⟩ => opE_ok (h (pz s) (pz_hz s) L' G' M' C' E' a' m' c' g' f' z' h1 h2 h3 h4 h5 h6 h7)
set_option maxHeartbeats 8000000 in
theorem sat_help : Sat Tryz.prog tab 68 shelp.spec := by
 refine sat_of ⟨tab, [(80, sload.spec), (81, sxnode.spec), (83, sdecide.spec), (84, swinner.spec), (82, scas.spec)], []⟩ (fun _ => ⟨.done, [], false, []⟩) mixed_ok tab_ok eq_nil (satall_cons sat_load (satall_cons sat_xnode (satall_cons sat_decide (satall_cons sat_winner (satall_cons sat_cas sat_nil))))) Tryz.func68 rfl rfl shelp ⟨fun ⟨L, G, M, C, E, a, m, c, g, f, s⟩ => rfl, fun ⟨L, G, M, C, E, a, m, c, g, f, s⟩ => ⟨rfl, rfl⟩, fun ⟨L, G, M, C, E, a, m, c, g, f, s⟩ ⟨L', G', M', C', E', a', m', c', g', f', z'⟩ => ⟨rfl, rfl⟩, fun ⟨L, G, M, C, E, a, m, c, g, f, s⟩ ⟨L', G', M', C', E', a', m', c', g', f', z'⟩ => rfl, rfl, rfl⟩ (N := 53) rfl (by kernel_rfl) (fun ⟨L, G, M, C, E, a, m, c, g, f, s⟩ => Nat.le_of_ble_eq_true rfl) ?_
 intro p hp
 obtain ⟨L, G, M, C, E, a, m, c, g, f, s⟩ := p
 obtain ⟨hX, hL⟩ := hp
 have hz0 := pz_0 s
 have hz1 := pz_1 s
 repeat' (first | (with_reducible refine Pch.mk ?_; kernel_rfl) | (intro n hr h; replace h := h (by omega) (by omega); subst h) | (intro z hz; first | (replace hz := HZ.at hz (by omega) (by omega); subst hz) | (replace hz := HZ.no hz; subst hz) | (replace hz := HZ.yes hz; subst hz)) | (intro h; try (exfalso; first | contradiction | exact h True.intro)) | ((conv => whnf) <;> (first | (with_reducible refine WL.ex ?_) | (with_reducible refine WL.me ?_) | (with_reducible refine WL.mk ?_) | with_reducible refine And.intro ?_ ?_ | with_reducible exact True.intro | exact Eq.refl _)))
 all_goals (first | (first | assumption | contradiction | omega | exact pz_of | exact pz_yes | (intro hh; first | contradiction | exact True.intro | omega) | ((try dsimp only [shelp] at *); first | assumption | omega) | ((conv => whnf); (try show (_ : Nat) ≤ _); (try dsimp only); omega)) | ((conv => whnf); refine' ⟨((_, _, _, _, _, _, _, _, _, _, _) : shelp.δ), _, _, _, _⟩))
 all_goals (repeat' (first | exact True.intro | exact Eq.refl _ | exact Iff.refl _ | ((conv => whnf) <;> (first | (with_reducible refine WL.ex ?_) | (with_reducible refine WL.me ?_) | (with_reducible refine WL.mk ?_) | with_reducible refine And.intro ?_ ?_ | with_reducible refine Iff.intro ?_ ?_))))
 all_goals (first | assumption | contradiction | omega | exact pz_of | exact pz_yes | (intro hh; first | contradiction | exact True.intro | omega) | ((try dsimp only [shelp] at *); first | assumption | omega) | ((conv => whnf); (try show (_ : Nat) ≤ _); (try dsimp only); omega))
end Tv
end Go.Proofs.YtpabdmcbahmjnaaGreat
