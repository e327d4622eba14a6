/- Exchanging the contents of a node; RENEW, CLEAN. -/
import Derived.Test.YtpabdmcbahmjnaaGreatMU9
namespace Go.Proofs.YtpabdmcbahmjnaaGreat
namespace Tv
open Go Go.RowKit
set_option linter.unusedSimpArgs false
set_option linter.unusedVariables false
def sgcas : Fs where
 α := Nat × Nat × Nat × Nat × Nat × Int × Int × Int × Int × Int × Prop
 δ := Nat × Nat × Nat × Nat × Nat × Int × Int × Int × Int × Int × Int
 A := fun | (L, G, M, C, E, a, m, c, g, f, s) => [.one (.c (.loc 1001 0)), .one (.agg [.tint .i64, .tbool]), .one (.c (.tint .i64)), .one (.c (.tint .i64)), .one (.c (.tint .i64))]
 B := fun | (L, G, M, C, E, a, m, c, g, f, s) => [(1000, memB L), (1001, exB L G M C E a m c g f s)]
 L := fun | (L, G, M, C, E, a, m, c, g, f, s) => L
 get := fun avs bx L => exGet bx L
 pre := fun | (L, G, M, C, E, a, m, c, g, f, s) => XI L G M C E a m c g f ∧ L + 20 ≤ 137438950000
 rel := fun | (L, G, M, C, E, a, m, c, g, f, s), (L', G', M', C', E', a', m', c', g', f', z') => XI L' G' M' C' E' a' m' c' g' f' ∧ 0 ≤ z' ∧ z' ≤ 1 ∧ L ≤ L' ∧ mu G' a' f' + z' ≤ mu G a f ∧ (G' : Int) + f' ≤ G + f ∧ L' ≤ L + 20
 R := fun | (L, G, M, C, E, a, m, c, g, f, s), (L', G', M', C', E', a', m', c', g', f', z') => .one (.c .tbool)
 B' := fun | (L, G, M, C, E, a, m, c, g, f, s), (L', G', M', C', E', a', m', c', g', f', z') => [(1000, memB L'), (1001, exB L' G' M' C' E' a' m' c' g' f' (z' = 0))]
 L' := fun | (L, G, M, C, E, a, m, c, g, f, s), (L', G', M', C', E', a', m', c', g', f', z') => L'
 reads := [1000, 1001]
 tc := [1000, 1001]
 st := fun p kk => match p with | (L, G, M, C, E, a, m, c, g, f, s) => opnA ([.one (.c (.loc 1001 0)), .one (.agg [.tint .i64, .tbool]), .one (.c (.tint .i64)), .one (.c (.tint .i64)), .one (.c (.tint .i64))]) fun avs0 => kk avs0 [(1000, memB L), (1001, exB L G M C E a m c g f (pz s = 0))] (L)
 st_ok := fun ⟨L, G, M, C, E, a, m, c, g, f, s⟩ _ h => opnA_imp (fun _ h => opE_st h) h
 cps := fun p kk => match p with | (L, G, M, C, E, a, m, c, g, f, s) => ∀ z : Int, HZ s z → ∀ L' : Nat, ∀ G' : Nat, ∀ M' : Nat, ∀ C' : Nat, ∀ E' : Nat, ∀ a' : Int, ∀ m' : Int, ∀ c' : Int, ∀ g' : Int, ∀ f' : Int, ∀ z' : Int, (XI L' G' M' C' E' a' m' c' g' f') → (0 ≤ z') → (z' ≤ 1) → (L ≤ L') → (mu G' a' f' + z' ≤ mu G a f) → ((G' : Int) + f' ≤ G + f) → (L' ≤ L + 20) → kk (.one (.c .tbool)) ([(1000, memB L'), (1001, exB L' G' M' C' E' a' m' c' g' f' (z' = 0))]) (L')
 cur := fun ⟨L, G, M, C, E, a, m, c, g, f, s⟩ _ h ⟨L', G', M', C', E', a', m', c', g', f', z'⟩ ⟨h1, h2, h3, h4, h5, h6, h7⟩ => opE_ok (h (pz s) (pz_hz s) L' G' M' C' E' a' m' c' g' f' z' h1 h2 h3 h4 h5 h6 h7)
set_option maxHeartbeats 8000000 in
theorem sat_gcas : Sat Tryz.prog tab 67 sgcas.spec := by
 refine sat_of ⟨tab, [(81, sxnode.spec), (82, scas.spec), (79, ssettle.spec)], []⟩ (fun _ => ⟨.done, [], false, []⟩) mixed_ok tab_ok eq_nil (satall_cons sat_xnode (satall_cons sat_cas (satall_cons sat_settle sat_nil))) Tryz.func67 rfl rfl sgcas ⟨fun ⟨L, G, M, C, E, a, m, c, g, f, s⟩ => rfl, fun ⟨L, G, M, C, E, a, m, c, g, f, s⟩ => ⟨rfl, rfl⟩, fun ⟨L, G, M, C, E, a, m, c, g, f, s⟩ ⟨L', G', M', C', E', a', m', c', g', f', z'⟩ => ⟨rfl, rfl⟩, fun ⟨L, G, M, C, E, a, m, c, g, f, s⟩ ⟨L', G', M', C', E', a', m', c', g', f', z'⟩ => rfl, rfl, rfl⟩ (N := 36) rfl (by kernel_rfl) (fun ⟨L, G, M, C, E, a, m, c, g, f, s⟩ => Nat.le_of_ble_eq_true rfl) ?_
 intro p hp
 obtain ⟨L, G, M, C, E, a, m, c, g, f, s⟩ := p
 obtain ⟨hX, hL⟩ := hp
 have hz0 := pz_0 s
 have hz1 := pz_1 s
 have hL0 := hX.L0
 repeat' (first | (with_reducible refine Pch.mk ?_; kernel_rfl) | (intro n hr h; replace h := h (by omega) (by omega); subst h) | (intro z hz; first | (replace hz := HZ.at hz (by omega) (by omega); subst hz) | (replace hz := HZ.no hz; subst hz) | (replace hz := HZ.yes hz; subst hz)) | (intro h; try (exfalso; first | contradiction | exact h True.intro)) | ((conv => whnf) <;> (first | (with_reducible refine WL.ex ?_) | (with_reducible refine WL.me ?_) | (with_reducible refine WL.mk ?_) | with_reducible refine And.intro ?_ ?_ | with_reducible exact True.intro | exact Eq.refl _)))
 all_goals (first | (first | assumption | contradiction | omega | exact pz_of | exact pz_yes | (intro hh; first | contradiction | exact True.intro | omega) | ((try dsimp only [sgcas] at *); first | assumption | omega) | ((conv => whnf); (try show (_ : Nat) ≤ _); (try dsimp only); omega)) | ((conv => whnf); refine' ⟨((_, _, _, _, _, _, _, _, _, _, _) : sgcas.δ), _, _, _, _⟩))
 all_goals (repeat' (first | exact True.intro | exact Eq.refl _ | exact Iff.refl _ | ((conv => whnf) <;> (first | (with_reducible refine WL.ex ?_) | (with_reducible refine WL.me ?_) | (with_reducible refine WL.mk ?_) | with_reducible refine And.intro ?_ ?_ | with_reducible refine Iff.intro ?_ ?_))))
 all_goals (first | assumption | contradiction | omega | exact pz_of | exact pz_yes | (intro hh; first | contradiction | exact True.intro | omega) | ((try dsimp only [sgcas] at *); first | assumption | omega) | ((conv => whnf); (try show (_ : Nat) ≤ _); (try dsimp only); omega))
def srdcss : Fs where
 α := Nat × Nat × Nat × Nat × Nat × Int × Int × Int × Int × Int × Prop
 δ := Nat × Nat × Nat × Nat × Nat × Int × Int × Int × Int × Int × Int
 A := fun | (L, G, M, C, E, a, m, c, g, f, s) => [.one (.c (.loc 1001 0)), .one (.agg [.tint .i64, .tbool]), .one (.c (.tint .i64)), .one (.c (.tint .i64)), .one (.c (.tint .i64))]
 B := fun | (L, G, M, C, E, a, m, c, g, f, s) => [(1000, memB L), (1001, exB L G M C E a m c g f s)]
 L := fun | (L, G, M, C, E, a, m, c, g, f, s) => L
 get := fun avs bx L => exGet bx L
 pre := fun | (L, G, M, C, E, a, m, c, g, f, s) => XI L G M C E a m c g f ∧ L + 32 ≤ 137438950000
 rel := fun | (L, G, M, C, E, a, m, c, g, f, s), (L', G', M', C', E', a', m', c', g', f', z') => XI L' G' M' C' E' a' m' c' g' f' ∧ 0 ≤ z' ∧ z' ≤ 1 ∧ L ≤ L' ∧ mu G' a' f' + z' ≤ mu G a f + pz s ∧ (G' : Int) + f' ≤ G + f ∧ L' ≤ L + 32
 R := fun | (L, G, M, C, E, a, m, c, g, f, s), (L', G', M', C', E', a', m', c', g', f', z') => .one (.c .tbool)
 B' := fun | (L, G, M, C, E, a, m, c, g, f, s), (L', G', M', C', E', a', m', c', g', f', z') => [(1000, memB L'), (1001, exB L' G' M' C' E' a' m' c' g' f' (z' = 0))]
 L' := fun | (L, G, M, C, E, a, m, c, g, f, s), (L', G', M', C', E', a', m', c', g', f', z') => L'
 reads := [1000, 1001]
 tc := [1000, 1001]
 st := fun p kk => match p with | (L, G, M, C, E, a, m, c, g, f, s) => opnA ([.one (.c (.loc 1001 0)), .one (.agg [.tint .i64, .tbool]), .one (.c (.tint .i64)), .one (.c (.tint .i64)), .one (.c (.tint .i64))]) fun avs0 => kk avs0 [(1000, memB L), (1001, exB L G M C E a m c g f (pz s = 0))] (L)
 st_ok := fun ⟨L, G, M, C, E, a, m, c, g, f, s⟩ _ h => opnA_imp (fun _ h => opE_st h) h
 cps := fun p kk => match p with | (L, G, M, C, E, a, m, c, g, f, s) => ∀ z : Int, HZ s z → ∀ L' : Nat, ∀ G' : Nat, ∀ M' : Nat, ∀ C' : Nat, ∀ E' : Nat, ∀ a' : Int, ∀ m' : Int, ∀ c' : Int, ∀ g' : Int, ∀ f' : Int, ∀ z' : Int, (XI L' G' M' C' E' a' m' c' g' f') → (0 ≤ z') → (z' ≤ 1) → (L ≤ L') → (mu G' a' f' + z' ≤ mu G a f + z) → ((G' : Int) + f' ≤ G + f) → (L' ≤ L + 32) → kk (.one (.c .tbool)) ([(1000, memB L'), (1001, exB L' G' M' C' E' a' m' c' g' f' (z' = 0))]) (L')
 cur := fun ⟨L, G, M, C, E, a, m, c, g, f, s⟩ _ h ⟨L', G', M', C', E', a', m', c', g', f', z'⟩ ⟨h1, h2, h3, h4, h5, h6, h7⟩ => opE_ok (h (pz s) (pz_hz s) L' G' M' C' E' a' m' c' g' f' z' h1 h2 h3 h4 h5 h6 h7)
set_option maxHeartbeats 8000000 in
theorem sat_rdcss : Sat Tryz.prog tab 69 srdcss.spec := by
 refine sat_of ⟨tab, [(85, salloc.spec), (82, scas.spec), (83, sdecide.spec), (81, sxnode.spec), (80, sload.spec), (84, swinner.spec)], []⟩ (fun id => match assoc [(6, ⟨.take 0 (.take 1 (.take 3 (.take 4 (.take 5 (.take 6 (.take 2 (.step 7 (.step 8 (.done))))))))), [6], false, []⟩)] id with | some p => p | none => ⟨.done, [], false, []⟩) mixed_ok tab_ok eq_nil (satall_cons sat_alloc (satall_cons sat_cas (satall_cons sat_decide (satall_cons sat_xnode (satall_cons sat_load (satall_cons sat_winner sat_nil)))))) Tryz.func69 rfl rfl srdcss ⟨fun ⟨L, G, M, C, E, a, m, c, g, f, s⟩ => rfl, fun ⟨L, G, M, C, E, a, m, c, g, f, s⟩ => ⟨rfl, rfl⟩, fun ⟨L, G, M, C, E, a, m, c, g, f, s⟩ ⟨L', G', M', C', E', a', m', c', g', f', z'⟩ => ⟨rfl, rfl⟩, fun ⟨L, G, M, C, E, a, m, c, g, f, s⟩ ⟨L', G', M', C', E', a', m', c', g', f', z'⟩ => rfl, rfl, rfl⟩ (N := 54) rfl (by kernel_rfl) (fun ⟨L, G, M, C, E, a, m, c, g, f, s⟩ => Nat.le_of_ble_eq_true rfl) ?_
 intro p hp
 obtain ⟨L, G, M, C, E, a, m, c, g, f, s⟩ := p
 obtain ⟨hX, hL⟩ := hp
 have hz0 := pz_0 s
 have hz1 := pz_1 s
 have hL0 := hX.L0
 repeat' (first | (with_reducible refine Pch.mk ?_; kernel_rfl) | (intro n hr h; replace h := h (by omega) (by omega); subst h) | (intro z hz; first | (replace hz := HZ.at hz (by omega) (by omega); subst hz) | (replace hz := HZ.no hz; subst hz) | (replace hz := HZ.yes hz; subst hz)) | (intro h; try (exfalso; first | contradiction | exact h True.intro)) | ((conv => whnf) <;> (first | (with_reducible refine WL.ex ?_) | (with_reducible refine WL.me ?_) | (with_reducible refine WL.mk ?_) | with_reducible refine And.intro ?_ ?_ | with_reducible exact True.intro | exact Eq.refl _)))
 all_goals (first | (first | assumption | contradiction | omega | exact pz_of | exact pz_yes | (intro hh; first | contradiction | exact True.intro | omega) | ((try dsimp only [srdcss] at *); first | assumption | omega) | ((conv => whnf); (try show (_ : Nat) ≤ _); (try dsimp only); omega)) | ((conv => whnf); refine' ⟨((_, _, _, _, _, _, _, _, _, _, _) : srdcss.δ), _, _, _, _⟩))
 all_goals (repeat' (first | exact True.intro | exact Eq.refl _ | exact Iff.refl _ | ((conv => whnf) <;> (first | (with_reducible refine WL.ex ?_) | (with_reducible refine WL.me ?_) | (with_reducible refine WL.mk ?_) | with_reducible refine And.intro ?_ ?_ | with_reducible refine Iff.intro ?_ ?_))))
 all_goals (first | assumption | contradiction | omega | exact pz_of | exact pz_yes | (intro hh; first | contradiction | exact True.intro | omega) | ((try dsimp only [srdcss] at *); first | assumption | omega) | ((conv => whnf); (try show (_ : Nat) ≤ _); (try dsimp only); omega))
def sreplace : Fs where
 α := Nat × Nat × Nat × Nat × Nat × Int × Int × Int × Int × Int × Prop
 δ := Nat × Nat × Nat × Nat × Nat × Int × Int × Int × Int × Int × Int
 A := fun | (L, G, M, C, E, a, m, c, g, f, s) => [.one (.c (.loc 1001 0)), .one (.c (.tint .i64)), .one (.c (.tint .i64)), .one (.c (.tint .i64))]
 B := fun | (L, G, M, C, E, a, m, c, g, f, s) => [(1000, memB L), (1001, exB L G M C E a m c g f s)]
 L := fun | (L, G, M, C, E, a, m, c, g, f, s) => L
 get := fun avs bx L => exGet bx L
 pre := fun | (L, G, M, C, E, a, m, c, g, f, s) => XI L G M C E a m c g f ∧ L + 4 ≤ 137438950000
 rel := fun | (L, G, M, C, E, a, m, c, g, f, s), (L', G', M', C', E', a', m', c', g', f', z') => XI L' G' M' C' E' a' m' c' g' f' ∧ 0 ≤ z' ∧ z' ≤ 1 ∧ L ≤ L' ∧ mu G' a' f' + z' ≤ mu G a f + pz s ∧ (G' : Int) + f' ≤ G + f ∧ L' ≤ L + 4
 R := fun | (L, G, M, C, E, a, m, c, g, f, s), (L', G', M', C', E', a', m', c', g', f', z') => .one (.c (.tint .i64))
 B' := fun | (L, G, M, C, E, a, m, c, g, f, s), (L', G', M', C', E', a', m', c', g', f', z') => [(1000, memB L'), (1001, exB L' G' M' C' E' a' m' c' g' f' (z' = 0))]
 L' := fun | (L, G, M, C, E, a, m, c, g, f, s), (L', G', M', C', E', a', m', c', g', f', z') => L'
 reads := [1000, 1001]
 tc := [1000, 1001]
 st := fun p kk => match p with | (L, G, M, C, E, a, m, c, g, f, s) => opnA ([.one (.c (.loc 1001 0)), .one (.c (.tint .i64)), .one (.c (.tint .i64)), .one (.c (.tint .i64))]) fun avs0 => kk avs0 [(1000, memB L), (1001, exB L G M C E a m c g f (pz s = 0))] (L)
 st_ok := fun ⟨L, G, M, C, E, a, m, c, g, f, s⟩ _ h => opnA_imp (fun _ h => opE_st h) h
 cps := fun p kk => match p with | (L, G, M, C, E, a, m, c, g, f, s) => ∀ z : Int, HZ s z → ∀ L' : Nat, ∀ G' : Nat, ∀ M' : Nat, ∀ C' : Nat, ∀ E' : Nat, ∀ a' : Int, ∀ m' : Int, ∀ c' : Int, ∀ g' : Int, ∀ f' : Int, ∀ z' : Int, (XI L' G' M' C' E' a' m' c' g' f') → (0 ≤ z') → (z' ≤ 1) → (L ≤ L') → (mu G' a' f' + z' ≤ mu G a f + z) → ((G' : Int) + f' ≤ G + f) → (L' ≤ L + 4) → kk (.one (.c (.tint .i64))) ([(1000, memB L'), (1001, exB L' G' M' C' E' a' m' c' g' f' (z' = 0))]) (L')
 cur := fun ⟨L, G, M, C, E, a, m, c, g, f, s⟩ _ h ⟨L', G', M', C', E', a', m', c', g', f', z'⟩ ⟨h1, h2, h3, h4, h5, h6, h7⟩ => opE_ok (h (pz s) (pz_hz s) L' G' M' C' E' a' m' c' g' f' z' h1 h2 h3 h4 h5 h6 h7)
set_option maxHeartbeats 8000000 in
theorem sat_replace : Sat Tryz.prog tab 87 sreplace.spec := by
 refine sat_of ⟨tab, [(81, sxnode.spec), (90, sUpdated.spec), (85, salloc.spec)], []⟩ (fun _ => ⟨.done, [], false, []⟩) mixed_ok tab_ok eq_nil (satall_cons sat_xnode (satall_cons sat_Updated (satall_cons sat_alloc sat_nil))) Tryz.func87 rfl rfl sreplace ⟨fun ⟨L, G, M, C, E, a, m, c, g, f, s⟩ => rfl, fun ⟨L, G, M, C, E, a, m, c, g, f, s⟩ => ⟨rfl, rfl⟩, fun ⟨L, G, M, C, E, a, m, c, g, f, s⟩ ⟨L', G', M', C', E', a', m', c', g', f', z'⟩ => ⟨rfl, rfl⟩, fun ⟨L, G, M, C, E, a, m, c, g, f, s⟩ ⟨L', G', M', C', E', a', m', c', g', f', z'⟩ => rfl, rfl, rfl⟩ (N := 24) rfl (by kernel_rfl) (fun ⟨L, G, M, C, E, a, m, c, g, f, s⟩ => Nat.le_of_ble_eq_true rfl) ?_
 intro p hp
 obtain ⟨L, G, M, C, E, a, m, c, g, f, s⟩ := p
 obtain ⟨hX, hL⟩ := hp
 have hz0 := pz_0 s
 have hz1 := pz_1 s
 have hL0 := hX.L0
 repeat' (first | (with_reducible refine Pch.mk ?_; kernel_rfl) | (intro n hr h; replace h := h (by omega) (by omega); subst h) | (intro z hz; first | (replace hz := HZ.at hz (by omega) (by omega); subst hz) | (replace hz := HZ.no hz; subst hz) | (replace hz := HZ.yes hz; subst hz)) | (intro h; try (exfalso; first | contradiction | exact h True.intro)) | ((conv => whnf) <;> (first | (with_reducible refine WL.ex ?_) | (with_reducible refine WL.me ?_) | (with_reducible refine WL.mk ?_) | with_reducible refine And.intro ?_ ?_ | with_reducible exact True.intro | exact Eq.refl _)))
 all_goals (first | (first | assumption | contradiction | omega | exact pz_of | exact pz_yes | (intro hh; first | contradiction | exact True.intro | omega) | ((try dsimp only [sreplace] at *); first | assumption | omega) | ((conv => whnf); (try show (_ : Nat) ≤ _); (try dsimp only); omega)) | ((conv => whnf); refine' ⟨((_, _, _, _, _, _, _, _, _, _, _) : sreplace.δ), _, _, _, _⟩))
 all_goals (repeat' (first | exact True.intro | exact Eq.refl _ | exact Iff.refl _ | ((conv => whnf) <;> (first | (with_reducible refine WL.ex ?_) | (with_reducible refine WL.me ?_) | (with_reducible refine WL.mk ?_) | with_reducible refine And.intro ?_ ?_ | with_reducible refine Iff.intro ?_ ?_))))
 all_goals (first | assumption | contradiction | omega | exact pz_of | exact pz_yes | (intro hh; first | contradiction | exact True.intro | omega) | ((try dsimp only [sreplace] at *); first | assumption | omega) | ((conv => whnf); (try show (_ : Nat) ≤ _); (try dsimp only); omega))
def srenew : Fs where
 α := Nat × Nat × Nat × Nat × Nat × Int × Int × Int × Int × Int × Prop
 δ := Nat × Nat × Nat × Nat × Nat × Int × Int × Int × Int × Int × Int
 A := fun | (L, G, M, C, E, a, m, c, g, f, s) => [.one (.c (.loc 1001 0)), .one (.agg [.tint .i64, .tbool]), .one (.c (.tint .i64)), .one (.c (.tint .i64)), .one (.c (.tint .i64))]
 B := fun | (L, G, M, C, E, a, m, c, g, f, s) => [(1000, memB L), (1001, exB L G M C E a m c g f s)]
 L := fun | (L, G, M, C, E, a, m, c, g, f, s) => L
 get := fun avs bx L => exGet bx L
 pre := fun | (L, G, M, C, E, a, m, c, g, f, s) => XI L G M C E a m c g f ∧ L + 48 ≤ 137438950000
 rel := fun | (L, G, M, C, E, a, m, c, g, f, s), (L', G', M', C', E', a', m', c', g', f', z') => XI L' G' M' C' E' a' m' c' g' f' ∧ 0 ≤ z' ∧ z' ≤ 1 ∧ L ≤ L' ∧ mu G' a' f' + z' ≤ mu G a f ∧ (G' : Int) + f' ≤ G + f ∧ L' ≤ L + 48
 R := fun | (L, G, M, C, E, a, m, c, g, f, s), (L', G', M', C', E', a', m', c', g', f', z') => .one (.c (.tint .i64))
 B' := fun | (L, G, M, C, E, a, m, c, g, f, s), (L', G', M', C', E', a', m', c', g', f', z') => [(1000, memB L'), (1001, exB L' G' M' C' E' a' m' c' g' f' (z' = 0))]
 L' := fun | (L, G, M, C, E, a, m, c, g, f, s), (L', G', M', C', E', a', m', c', g', f', z') => L'
 reads := [1000, 1001]
 tc := [1000, 1001]
 st := fun p kk => match p with | (L, G, M, C, E, a, m, c, g, f, s) => opnA ([.one (.c (.loc 1001 0)), .one (.agg [.tint .i64, .tbool]), .one (.c (.tint .i64)), .one (.c (.tint .i64)), .one (.c (.tint .i64))]) fun avs0 => kk avs0 [(1000, memB L), (1001, exB L G M C E a m c g f (pz s = 0))] (L)
 st_ok := fun ⟨L, G, M, C, E, a, m, c, g, f, s⟩ _ h => opnA_imp (fun _ h => opE_st h) h
 cps := fun p kk => match p with | (L, G, M, C, E, a, m, c, g, f, s) => ∀ z : Int, HZ s z → ∀ L' : Nat, ∀ G' : Nat, ∀ M' : Nat, ∀ C' : Nat, ∀ E' : Nat, ∀ a' : Int, ∀ m' : Int, ∀ c' : Int, ∀ g' : Int, ∀ f' : Int, ∀ z' : Int, (XI L' G' M' C' E' a' m' c' g' f') → (0 ≤ z') → (z' ≤ 1) → (L ≤ L') → (mu G' a' f' + z' ≤ mu G a f) → ((G' : Int) + f' ≤ G + f) → (L' ≤ L + 48) → kk (.one (.c (.tint .i64))) ([(1000, memB L'), (1001, exB L' G' M' C' E' a' m' c' g' f' (z' = 0))]) (L')
 cur := fun ⟨L, G, M, C, E, a, m, c, g, f, s⟩ _ h ⟨L', G', M', C', E', a', m', c', g', f', z'⟩ ⟨h1, h2, h3, h4, h5, h6, h7⟩ => opE_ok (h (pz s) (pz_hz s) L' G' M' C' E' a' m' c' g' f' z' h1 h2 h3 h4 h5 h6 h7)
set_option maxHeartbeats 8000000 in
theorem sat_renew : Sat Tryz.prog tab 70 srenew.spec := by
 refine sat_of ⟨tab, [(81, sxnode.spec), (86, sLookup.spec), (66, sread.spec), (85, salloc.spec), (87, sreplace.spec), (67, sgcas.spec)], []⟩ (fun id => match assoc [(4, ⟨.take 0 (.take 2 (.take 3 (.take 4 (.take 5 (.take 6 (.take 7 (.take 1 (.step 8 (.step 9 (.done)))))))))), [6], false, []⟩)] id with | some p => p | none => ⟨.done, [], false, []⟩) mixed_ok tab_ok eq_nil (satall_cons sat_xnode (satall_cons sat_Lookup (satall_cons sat_read (satall_cons sat_alloc (satall_cons sat_replace (satall_cons sat_gcas sat_nil)))))) Tryz.func70 rfl rfl srenew ⟨fun ⟨L, G, M, C, E, a, m, c, g, f, s⟩ => rfl, fun ⟨L, G, M, C, E, a, m, c, g, f, s⟩ => ⟨rfl, rfl⟩, fun ⟨L, G, M, C, E, a, m, c, g, f, s⟩ ⟨L', G', M', C', E', a', m', c', g', f', z'⟩ => ⟨rfl, rfl⟩, fun ⟨L, G, M, C, E, a, m, c, g, f, s⟩ ⟨L', G', M', C', E', a', m', c', g', f', z'⟩ => rfl, rfl, rfl⟩ (N := 46) rfl (by kernel_rfl) (fun ⟨L, G, M, C, E, a, m, c, g, f, s⟩ => Nat.le_of_ble_eq_true rfl) ?_
 intro p hp
 obtain ⟨L, G, M, C, E, a, m, c, g, f, s⟩ := p
 obtain ⟨hX, hL⟩ := hp
 have hz0 := pz_0 s
 have hz1 := pz_1 s
 have hL0 := hX.L0
 repeat' (first | (with_reducible refine Pch.mk ?_; kernel_rfl) | (intro n hr h; replace h := h (by omega) (by omega); subst h) | (intro z hz; first | (replace hz := HZ.at hz (by omega) (by omega); subst hz) | (replace hz := HZ.no hz; subst hz) | (replace hz := HZ.yes hz; subst hz)) | (intro h; try (exfalso; first | contradiction | exact h True.intro)) | ((conv => whnf) <;> (first | (with_reducible refine WL.ex ?_) | (with_reducible refine WL.me ?_) | (with_reducible refine WL.mk ?_) | with_reducible refine And.intro ?_ ?_ | with_reducible exact True.intro | exact Eq.refl _)))
 all_goals (first | (first | assumption | contradiction | omega | exact pz_of | exact pz_yes | (intro hh; first | contradiction | exact True.intro | omega) | ((try dsimp only [srenew] at *); first | assumption | omega) | ((conv => whnf); (try show (_ : Nat) ≤ _); (try dsimp only); omega)) | ((conv => whnf); refine' ⟨((_, _, _, _, _, _, _, _, _, _, _) : srenew.δ), _, _, _, _⟩))
 all_goals (repeat' (first | exact True.intro | exact Eq.refl _ | exact Iff.refl _ | ((conv => whnf) <;> (first | (with_reducible refine WL.ex ?_) | (with_reducible refine WL.me ?_) | (with_reducible refine WL.mk ?_) | with_reducible refine And.intro ?_ ?_ | with_reducible refine Iff.intro ?_ ?_))))
 all_goals (first | assumption | contradiction | omega | exact pz_of | exact pz_yes | (intro hh; first | contradiction | exact True.intro | omega) | ((try dsimp only [srenew] at *); first | assumption | omega) | ((conv => whnf); (try show (_ : Nat) ≤ _); (try dsimp only); omega))
def sclean : Fs where
 α := Nat × Nat × Nat × Nat × Nat × Int × Int × Int × Int × Int × Prop
 δ := Nat × Nat × Nat × Nat × Nat × Int × Int × Int × Int × Int × Int
 A := fun | (L, G, M, C, E, a, m, c, g, f, s) => [.one (.c (.loc 1001 0)), .one (.agg [.tint .i64, .tbool]), .one (.c (.tint .i64)), .one (.c (.tint .i64)), .one (.c (.tint .u64)), .one (.c (.tint .i64))]
 B := fun | (L, G, M, C, E, a, m, c, g, f, s) => [(1000, memB L), (1001, exB L G M C E a m c g f s)]
 L := fun | (L, G, M, C, E, a, m, c, g, f, s) => L
 get := fun avs bx L => exGet bx L
 pre := fun | (L, G, M, C, E, a, m, c, g, f, s) => XI L G M C E a m c g f ∧ L + 72 ≤ 137438950000
 rel := fun | (L, G, M, C, E, a, m, c, g, f, s), (L', G', M', C', E', a', m', c', g', f', z') => XI L' G' M' C' E' a' m' c' g' f' ∧ 0 ≤ z' ∧ z' ≤ 1 ∧ L ≤ L' ∧ mu G' a' f' + z' ≤ mu G a f ∧ (G' : Int) + f' ≤ G + f ∧ L' ≤ L + 72
 R := fun | (L, G, M, C, E, a, m, c, g, f, s), (L', G', M', C', E', a', m', c', g', f', z') => .one (.c .tbool)
 B' := fun | (L, G, M, C, E, a, m, c, g, f, s), (L', G', M', C', E', a', m', c', g', f', z') => [(1000, memB L'), (1001, exB L' G' M' C' E' a' m' c' g' f' (z' = 0))]
 L' := fun | (L, G, M, C, E, a, m, c, g, f, s), (L', G', M', C', E', a', m', c', g', f', z') => L'
 reads := [1000, 1001]
 tc := [1000, 1001]
 st := fun p kk => match p with | (L, G, M, C, E, a, m, c, g, f, s) => opnA ([.one (.c (.loc 1001 0)), .one (.agg [.tint .i64, .tbool]), .one (.c (.tint .i64)), .one (.c (.tint .i64)), .one (.c (.tint .u64)), .one (.c (.tint .i64))]) fun avs0 => kk avs0 [(1000, memB L), (1001, exB L G M C E a m c g f (pz s = 0))] (L)
 st_ok := fun ⟨L, G, M, C, E, a, m, c, g, f, s⟩ _ h => opnA_imp (fun _ h => opE_st h) h
 cps := fun p kk => match p with | (L, G, M, C, E, a, m, c, g, f, s) => ∀ z : Int, HZ s z → ∀ L' : Nat, ∀ G' : Nat, ∀ M' : Nat, ∀ C' : Nat, ∀ E' : Nat, ∀ a' : Int, ∀ m' : Int, ∀ c' : Int, ∀ g' : Int, ∀ f' : Int, ∀ z' : Int, (XI L' G' M' C' E' a' m' c' g' f') → (0 ≤ z') → (z' ≤ 1) → (L ≤ L') → (mu G' a' f' + z' ≤ mu G a f) → ((G' : Int) + f' ≤ G + f) → (L' ≤ L + 72) → kk (.one (.c .tbool)) ([(1000, memB L'), (1001, exB L' G' M' C' E' a' m' c' g' f' (z' = 0))]) (L')
 cur := fun ⟨L, G, M, C, E, a, m, c, g, f, s⟩ _ h ⟨L', G', M', C', E', a', m', c', g', f', z'⟩ ⟨h1, h2, h3, h4, h5, h6, h7⟩ => opE_ok (h (pz s) (pz_hz s) L' G' M' C' E' a' m' c' g' f' z' h1 h2 h3 h4 h5 h6 h7)
set_option maxHeartbeats 8000000 in
theorem sat_clean : Sat Tryz.prog tab 71 sclean.spec := by
 refine sat_of ⟨tab, [(66, sread.spec), (88, sSlice.spec), (81, sxnode.spec), (86, sLookup.spec), (89, sUntombed.spec), (85, salloc.spec), (90, sUpdated.spec), (91, sContracted.spec), (67, sgcas.spec)], []⟩ (fun id => match assoc [(11, ⟨.take 0 (.take 2 (.take 3 (.take 4 (.take 6 (.take 9 (.take 1 (.take 5 (.take 7 (.step 8 (.step 10 (.step 11 (.take 12 (.done))))))))))))), [7, 17, 20], false, []⟩)] id with | some p => p | none => ⟨.done, [], false, []⟩) mixed_ok tab_ok eq_nil (satall_cons sat_read (satall_cons sat_Slice (satall_cons sat_xnode (satall_cons sat_Lookup (satall_cons sat_Untombed (satall_cons sat_alloc (satall_cons sat_Updated (satall_cons sat_Contracted (satall_cons sat_gcas sat_nil))))))))) Tryz.func71 rfl rfl sclean ⟨fun ⟨L, G, M, C, E, a, m, c, g, f, s⟩ => rfl, fun ⟨L, G, M, C, E, a, m, c, g, f, s⟩ => ⟨rfl, rfl⟩, fun ⟨L, G, M, C, E, a, m, c, g, f, s⟩ ⟨L', G', M', C', E', a', m', c', g', f', z'⟩ => ⟨rfl, rfl⟩, fun ⟨L, G, M, C, E, a, m, c, g, f, s⟩ ⟨L', G', M', C', E', a', m', c', g', f', z'⟩ => rfl, rfl, rfl⟩ (N := 92) rfl (by kernel_rfl) (fun ⟨L, G, M, C, E, a, m, c, g, f, s⟩ => Nat.le_of_ble_eq_true rfl) ?_
 intro p hp
 obtain ⟨L, G, M, C, E, a, m, c, g, f, s⟩ := p
 obtain ⟨hX, hL⟩ := hp
 have hz0 := pz_0 s
 have hz1 := pz_1 s
 have hL0 := hX.L0
 repeat' (first | (with_reducible refine Pch.mk ?_; kernel_rfl) | (intro n hr h; replace h := h (by omega) (by omega); subst h) | (intro z hz; first | (replace hz := HZ.at hz (by omega) (by omega); subst hz) | (replace hz := HZ.no hz; subst hz) | (replace hz := HZ.yes hz; subst hz)) | (intro h; try (exfalso; first | contradiction | exact h True.intro)) | ((conv => whnf) <;> (first | (with_reducible refine WL.ex ?_) | (with_reducible refine WL.me ?_) | (with_reducible refine WL.mk ?_) | with_reducible refine And.intro ?_ ?_ | with_reducible exact True.intro | exact Eq.refl _)))
 all_goals (first | (first | assumption | contradiction | omega | exact pz_of | exact pz_yes | (intro hh; first | contradiction | exact True.intro | omega) | ((try dsimp only [sclean] at *); first | assumption | omega) | ((conv => whnf); (try show (_ : Nat) ≤ _); (try dsimp only); omega)) | ((conv => whnf); refine' ⟨((_, _, _, _, _, _, _, _, _, _, _) : sclean.δ), _, _, _, _⟩))
 all_goals (repeat' (first | exact True.intro | exact Eq.refl _ | exact Iff.refl _ | ((conv => whnf) <;> (first | (with_reducible refine WL.ex ?_) | (with_reducible refine WL.me ?_) | (with_reducible refine WL.mk ?_) | with_reducible refine And.intro ?_ ?_ | with_reducible refine Iff.intro ?_ ?_))))
 all_goals (first | assumption | contradiction | omega | exact pz_of | exact pz_yes | (intro hh; first | contradiction | exact True.intro | omega) | ((try dsimp only [sclean] at *); first | assumption | omega) | ((conv => whnf); (try show (_ : Nat) ≤ _); (try dsimp only); omega))
end Tv
end Go.Proofs.YtpabdmcbahmjnaaGreat
