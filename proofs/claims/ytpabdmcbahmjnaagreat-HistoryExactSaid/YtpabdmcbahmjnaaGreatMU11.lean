/- FIND, and what PUT needs. -/
import Derived.Test.YtpabdmcbahmjnaaGreatMU10
namespace Go.Proofs.YtpabdmcbahmjnaaGreat
namespace Tv
open Go Go.RowKit
set_option linter.unusedSimpArgs false
set_option linter.unusedVariables false
theorem mu_nn {L G M C E : Nat} {a m c g f : Int} (h : XI L G M C E a m c g f) : 0 ≤ mu G a f := by
 obtain ⟨h1, h2, h3, h4, h5, h6, h7, h8, h9, h10, h11, h12, h13, h14, h15⟩ := h
 unfold mu
 omega
def sswapped : Fs where
 α := Nat × Nat × Nat × Nat × Nat × Int × Int × Int × Int × Int × Prop
 δ := Unit
 A := fun | (L, G, M, C, E, a, m, c, g, f, s) => [.one (.c (.loc 1001 0)), .one (.c .tbool), .one (.c .tbool), .one (.c (.tint .u64))]
 B := fun | (L, G, M, C, E, a, m, c, g, f, s) => [(1000, memB L), (1001, exB L G M C E a m c g f s)]
 L := fun | (L, G, M, C, E, a, m, c, g, f, s) => L
 get := fun avs bx L => exGet bx L
 pre := fun | (L, G, M, C, E, a, m, c, g, f, s) => XI L G M C E a m c g f ∧ L + 0 ≤ 137438950000
 rel := fun | (L, G, M, C, E, a, m, c, g, f, s), () => True
 R := fun | (L, G, M, C, E, a, m, c, g, f, s), () => .tup [.agg [.tint .i64, .tbool, .tint .u64, .str, .tint .i64, .tint .i64, .tint .i64, .tbool], .c (.tint .i64)]
 B' := fun | (L, G, M, C, E, a, m, c, g, f, s), () => [(1000, memB L), (1001, exB L G M C E a m c g f s)]
 L' := fun | (L, G, M, C, E, a, m, c, g, f, s), () => L
 reads := [1000, 1001]
 tc := [1000]
 st := fun p kk => match p with | (L, G, M, C, E, a, m, c, g, f, s) => opnA ([.one (.c (.loc 1001 0)), .one (.c .tbool), .one (.c .tbool), .one (.c (.tint .u64))]) fun avs0 => kk avs0 [(1000, memB L), (1001, exB L G M C E a m c g f (pz s = 0))] (L)
 st_ok := fun ⟨L, G, M, C, E, a, m, c, g, f, s⟩ _ h => opnA_imp (fun _ h => opE_st h) h
 cps := fun p kk => match p with | (L, G, M, C, E, a, m, c, g, f, s) => kk (.tup [.agg [.tint .i64, .tbool, .tint .u64, .str, .tint .i64, .tint .i64, .tint .i64, .tbool], .c (.tint .i64)]) ([(1000, memB L), (1001, exB L G M C E a m c g f s)]) (L)
 cur := fun ⟨L, G, M, C, E, a, m, c, g, f, s⟩ _ h () _ => opE_ok (h )
set_option maxHeartbeats 8000000 in
theorem sat_swapped : Sat Tryz.prog tab 117 sswapped.spec := by
 refine sat_of ⟨tab, [(93, svalue.spec)], []⟩ (fun _ => ⟨.done, [], false, []⟩) mixed_ok tab_ok eq_nil (satall_cons sat_value sat_nil) Tryz.func117 rfl rfl sswapped ⟨fun ⟨L, G, M, C, E, a, m, c, g, f, s⟩ => rfl, fun ⟨L, G, M, C, E, a, m, c, g, f, s⟩ => ⟨rfl, rfl⟩, fun ⟨L, G, M, C, E, a, m, c, g, f, s⟩ _ => ⟨rfl, rfl⟩, fun ⟨L, G, M, C, E, a, m, c, g, f, s⟩ _ => rfl, rfl, rfl⟩ (N := 19) rfl (by kernel_rfl) (fun ⟨L, G, M, C, E, a, m, c, g, f, s⟩ => Nat.le_of_ble_eq_true rfl) ?_
 intro p hp
 obtain ⟨L, G, M, C, E, a, m, c, g, f, s⟩ := p
 obtain ⟨hX, hL⟩ := hp
 have hz0 := pz_0 s
 have hz1 := pz_1 s
 repeat' (first | (with_reducible refine Pch.mk ?_; kernel_rfl) | (intro n hr h; replace h := h (by omega) (by omega); subst h) | (intro z hz; first | (replace hz := HZ.at hz (by omega) (by omega); subst hz) | (replace hz := HZ.no hz; subst hz) | (replace hz := HZ.yes hz; subst hz)) | (intro h; try (exfalso; first | contradiction | exact h True.intro)) | ((conv => whnf) <;> (first | (with_reducible refine WL.ex ?_) | (with_reducible refine WL.me ?_) | (with_reducible refine WL.mk ?_) | with_reducible refine And.intro ?_ ?_ | with_reducible exact True.intro | exact Eq.refl _)))
 all_goals (first | (first | assumption | contradiction | omega | exact pz_of | exact pz_yes | (intro hh; first | contradiction | exact True.intro | omega) | ((try dsimp only [sswapped] at *); first | assumption | omega) | ((conv => whnf); (try show (_ : Nat) ≤ _); (try dsimp only); omega) | ((try dsimp only [sswapped] at *); simp only [XI_iff, mu] at *; omega)) | ((conv => whnf); refine' ⟨(() : sswapped.δ), _, _, _, _⟩))
 all_goals (repeat' (first | exact True.intro | exact Eq.refl _ | exact Iff.refl _ | ((conv => whnf) <;> (first | (with_reducible refine WL.ex ?_) | (with_reducible refine WL.me ?_) | (with_reducible refine WL.mk ?_) | with_reducible refine And.intro ?_ ?_ | with_reducible refine Iff.intro ?_ ?_))))
 all_goals (first | assumption | contradiction | omega | exact pz_of | exact pz_yes | (intro hh; first | contradiction | exact True.intro | omega) | ((try dsimp only [sswapped] at *); first | assumption | omega) | ((conv => whnf); (try show (_ : Nat) ≤ _); (try dsimp only); omega) | ((try dsimp only [sswapped] at *); simp only [XI_iff, mu] at *; omega))
def spermits : Fs where
 α := Nat × Nat × Nat × Nat × Nat × Int × Int × Int × Int × Int × Prop
 δ := Unit
 A := fun | (L, G, M, C, E, a, m, c, g, f, s) => [.one (.c (.loc 1001 0)), .one (.c .tbool), .one (.c (.tint .u64))]
 B := fun | (L, G, M, C, E, a, m, c, g, f, s) => [(1000, memB L), (1001, exB L G M C E a m c g f s)]
 L := fun | (L, G, M, C, E, a, m, c, g, f, s) => L
 get := fun avs bx L => exGet bx L
 pre := fun | (L, G, M, C, E, a, m, c, g, f, s) => XI L G M C E a m c g f ∧ L + 0 ≤ 137438950000
 rel := fun | (L, G, M, C, E, a, m, c, g, f, s), () => True
 R := fun | (L, G, M, C, E, a, m, c, g, f, s), () => .one (.c .tbool)
 B' := fun | (L, G, M, C, E, a, m, c, g, f, s), () => [(1000, memB L), (1001, exB L G M C E a m c g f s)]
 L' := fun | (L, G, M, C, E, a, m, c, g, f, s), () => L
 reads := [1000, 1001]
 tc := [1000]
 st := fun p kk => match p with | (L, G, M, C, E, a, m, c, g, f, s) => opnA ([.one (.c (.loc 1001 0)), .one (.c .tbool), .one (.c (.tint .u64))]) fun avs0 => kk avs0 [(1000, memB L), (1001, exB L G M C E a m c g f (pz s = 0))] (L)
 st_ok := fun ⟨L, G, M, C, E, a, m, c, g, f, s⟩ _ h => opnA_imp (fun _ h => opE_st h) h
 cps := fun p kk => match p with | (L, G, M, C, E, a, m, c, g, f, s) => kk (.one (.c .tbool)) ([(1000, memB L), (1001, exB L G M C E a m c g f s)]) (L)
 cur := fun ⟨L, G, M, C, E, a, m, c, g, f, s⟩ _ h () _ => opE_ok (h )
set_option maxHeartbeats 8000000 in
theorem sat_permits : Sat Tryz.prog tab 115 spermits.spec := by
 refine sat_of ⟨tab, [], []⟩ (fun _ => ⟨.done, [], false, []⟩) mixed_ok tab_ok eq_nil sat_nil Tryz.func115 rfl rfl spermits ⟨fun ⟨L, G, M, C, E, a, m, c, g, f, s⟩ => rfl, fun ⟨L, G, M, C, E, a, m, c, g, f, s⟩ => ⟨rfl, rfl⟩, fun ⟨L, G, M, C, E, a, m, c, g, f, s⟩ _ => ⟨rfl, rfl⟩, fun ⟨L, G, M, C, E, a, m, c, g, f, s⟩ _ => rfl, rfl, rfl⟩ (N := 31) rfl (by kernel_rfl) (fun ⟨L, G, M, C, E, a, m, c, g, f, s⟩ => Nat.le_of_ble_eq_true rfl) ?_
 intro p hp
 obtain ⟨L, G, M, C, E, a, m, c, g, f, s⟩ := p
 obtain ⟨hX, hL⟩ := hp
 have hz0 := pz_0 s
 have hz1 := pz_1 s
 repeat' (first | (with_reducible refine Pch.mk ?_; kernel_rfl) | (intro n hr h; replace h := h (by omega) (by omega); subst h) | (intro z hz; first | (replace hz := HZ.at hz (by omega) (by omega); subst hz) | (replace hz := HZ.no hz; subst hz) | (replace hz := HZ.yes hz; subst hz)) | (intro h; try (exfalso; first | contradiction | exact h True.intro)) | ((conv => whnf) <;> (first | (with_reducible refine WL.ex ?_) | (with_reducible refine WL.me ?_) | (with_reducible refine WL.mk ?_) | with_reducible refine And.intro ?_ ?_ | with_reducible exact True.intro | exact Eq.refl _)))
 all_goals (first | (first | assumption | contradiction | omega | exact pz_of | exact pz_yes | (intro hh; first | contradiction | exact True.intro | omega) | ((try dsimp only [spermits] at *); first | assumption | omega) | ((conv => whnf); (try show (_ : Nat) ≤ _); (try dsimp only); omega) | ((try dsimp only [spermits] at *); simp only [XI_iff, mu] at *; omega)) | ((conv => whnf); refine' ⟨(() : spermits.δ), _, _, _, _⟩))
 all_goals (repeat' (first | exact True.intro | exact Eq.refl _ | exact Iff.refl _ | ((conv => whnf) <;> (first | (with_reducible refine WL.ex ?_) | (with_reducible refine WL.me ?_) | (with_reducible refine WL.mk ?_) | with_reducible refine And.intro ?_ ?_ | with_reducible refine Iff.intro ?_ ?_))))
 all_goals (first | assumption | contradiction | omega | exact pz_of | exact pz_yes | (intro hh; first | contradiction | exact True.intro | omega) | ((try dsimp only [spermits] at *); first | assumption | omega) | ((conv => whnf); (try show (_ : Nat) ≤ _); (try dsimp only); omega) | ((try dsimp only [spermits] at *); simp only [XI_iff, mu] at *; omega))
def sdual : Fs where
 α := Nat × Nat × Nat × Nat × Nat × Int × Int × Int × Int × Int × Prop × Int
 δ := Nat × Nat × Nat × Nat × Nat × Int × Int × Int × Int × Int × Int
 A := fun | (L, G, M, C, E, a, m, c, g, f, s, lv) => [.one (.c (.loc 1001 0)), .one (.c (.tint .i64)), .one (.c (.tint .u64)), .one (.c (.int .i64 lv)), .one (.c (.tint .i64))]
 B := fun | (L, G, M, C, E, a, m, c, g, f, s, lv) => [(1000, memB L), (1001, exB L G M C E a m c g f s)]
 L := fun | (L, G, M, C, E, a, m, c, g, f, s, lv) => L
 get := fun avs bx L => match avs, exGet bx L with | [_, _, _, .one (.c (.int _ lv)), _], some (L, G, M, C, E, a, m, c, g, f, s) => some (L, G, M, C, E, a, m, c, g, f, s, lv) | _, _ => none
 pre := fun | (L, G, M, C, E, a, m, c, g, f, s, lv) => XI L G M C E a m c g f ∧ L + 50 ≤ 137438950000 ∧ 0 ≤ lv
 rel := fun | (L, G, M, C, E, a, m, c, g, f, s, lv), (L', G', M', C', E', a', m', c', g', f', z') => XI L' G' M' C' E' a' m' c' g' f' ∧ 0 ≤ z' ∧ z' ≤ 1 ∧ L ≤ L' ∧ mu G' a' f' + z' ≤ mu G a f + pz s ∧ (G' : Int) + f' ≤ G + f ∧ L' ≤ L + 50
 R := fun | (L, G, M, C, E, a, m, c, g, f, s, lv), (L', G', M', C', E', a', m', c', g', f', z') => .one (.c (.tint .i64))
 B' := fun | (L, G, M, C, E, a, m, c, g, f, s, lv), (L', G', M', C', E', a', m', c', g', f', z') => [(1000, memB L'), (1001, exB L' G' M' C' E' a' m' c' g' f' (z' = 0))]
 L' := fun | (L, G, M, C, E, a, m, c, g, f, s, lv), (L', G', M', C', E', a', m', c', g', f', z') => L'
 reads := [1000, 1001]
 tc := [1000, 1001]
 st := fun p kk => match p with | (L, G, M, C, E, a, m, c, g, f, s, lv) => opnA ([.one (.c (.loc 1001 0)), .one (.c (.tint .i64)), .one (.c (.tint .u64)), .one (.c (.int .i64 lv)), .one (.c (.tint .i64))]) fun avs0 => kk avs0 [(1000, memB L), (1001, exB L G M C E a m c g f (pz s = 0))] (L)
 st_ok := fun ⟨L, G, M, C, E, a, m, c, g, f, s, lv⟩ _ h => opnA_imp (fun _ h => opE_st h) h
 cps := fun p kk => match p with | (L, G, M, C, E, a, m, c, g, f, s, lv) => ∀ z : Int, HZ s z → ∀ L' : Nat, ∀ G' : Nat, ∀ M' : Nat, ∀ C' : Nat, ∀ E' : Nat, ∀ a' : Int, ∀ m' : Int, ∀ c' : Int, ∀ g' : Int, ∀ f' : Int, ∀ z' : Int, (XI L' G' M' C' E' a' m' c' g' f') → (0 ≤ z') → (z' ≤ 1) → (L ≤ L') → (mu G' a' f' + z' ≤ mu G a f + z) → ((G' : Int) + f' ≤ G + f) → (L' ≤ L + 50) → kk (.one (.c (.tint .i64))) ([(1000, memB L'), (1001, exB L' G' M' C' E' a' m' c' g' f' (z' = 0))]) (L')
 cur := fun ⟨L, G, M, C, E, a, m, c, g, f, s, lv⟩ _ h ⟨L', G', M', C', E', a', m', c', g', f', z'⟩ ⟨h1, h2, h3, h4, h5, h6, h7⟩ => opE_ok (h (pz s) (pz_hz s) L' G' M' C' E' a' m' c' g' f' z' h1 h2 h3 h4 h5 h6 h7)
set_option maxHeartbeats 8000000 in
theorem sat_dual : Sat Tryz.prog tab 119 sdual.spec := by
 refine sat_of ⟨tab, [(81, sxnode.spec), (126, sNodes.spec), (85, salloc.spec)], []⟩ (fun id => match assoc [(3, ⟨.take 0 (.take 1 (.take 2 (.take 4 (.take 5 (.take 6 (.take 3 (.take 7 (.take 8 (.take 9 (.done)))))))))), [1001], false, []⟩), (4, ⟨.take 0 (.take 1 (.take 2 (.take 4 (.take 5 (.take 6 (.take 3 (.take 7 (.take 8 (.step 9 (.take 10 (.done))))))))))), [1001], false, []⟩), (7, ⟨.take 0 (.take 1 (.take 3 (.take 4 (.take 5 (.take 6 (.take 7 (.take 8 (.take 10 (.take 11 (.take 12 (.take 13 (.take 15 (.take 16 (.take 17 (.take 9 (.take 14 (.step 2 (.step 18 (.take 19 (.take 20 (.take 21 (.take 22 (.take 23 (.done)))))))))))))))))))))))), [1001], false, []⟩), (11, ⟨.take 0 (.take 1 (.take 2 (.take 3 (.take 5 (.take 6 (.take 7 (.fork 4 (.step 8 (.step 9 (.take 10 (.done)))) 8 (.step 4 (.step 9 (.take 10 (.done))))))))))), [], false, []⟩)] id with | some p => p | none => ⟨.done, [], false, []⟩) mixed_ok tab_ok eq_nil (satall_cons sat_xnode (satall_cons sat_Nodes (satall_cons sat_alloc sat_nil))) Tryz.func119 rfl rfl sdual ⟨fun ⟨L, G, M, C, E, a, m, c, g, f, s, lv⟩ => rfl, fun ⟨L, G, M, C, E, a, m, c, g, f, s, lv⟩ => ⟨rfl, rfl⟩, fun ⟨L, G, M, C, E, a, m, c, g, f, s, lv⟩ ⟨L', G', M', C', E', a', m', c', g', f', z'⟩ => ⟨rfl, rfl⟩, fun ⟨L, G, M, C, E, a, m, c, g, f, s, lv⟩ ⟨L', G', M', C', E', a', m', c', g', f', z'⟩ => rfl, rfl, rfl⟩ (N := 89) rfl (by kernel_rfl) (fun ⟨L, G, M, C, E, a, m, c, g, f, s, lv⟩ => Nat.le_of_ble_eq_true rfl) ?_
 intro p hp
 obtain ⟨L, G, M, C, E, a, m, c, g, f, s, lv⟩ := p
 obtain ⟨hX, hL, hlv⟩ := hp
 have hz0 := pz_0 s
 have hz1 := pz_1 s
 have hL0 := hX.L0
 have hX0 := hX
 rw [XI_iff] at hX0
 have hmu := mu_nn hX
 repeat' (first | (with_reducible refine Pch.mk ?_; kernel_rfl) | (intro n hr h; replace h := h (by omega) (by omega); subst h) | (intro z hz; first | (replace hz := HZ.at hz (by omega) (by omega); subst hz) | (replace hz := HZ.no hz; subst hz) | (replace hz := HZ.yes hz; subst hz)) | (intro h; try (exfalso; first | contradiction | exact h True.intro)) | ((conv => whnf) <;> (first | (with_reducible refine WL.ex ?_) | (with_reducible refine WL.me ?_) | (with_reducible refine WL.mk ?_) | with_reducible refine And.intro ?_ ?_ | with_reducible exact True.intro | exact Eq.refl _)))
 all_goals (first | (first | assumption | contradiction | omega | exact pz_of | exact pz_yes | (intro hh; first | contradiction | exact True.intro | omega) | ((try dsimp only [sdual] at *); first | assumption | omega) | ((conv => whnf); (try show (_ : Nat) ≤ _); (try dsimp only); omega)) | ((conv => whnf); refine' ⟨((_, _, _, _, _, _, _, _, _, _, _) : sdual.δ), _, _, _, _⟩) | ((conv => whnf); refine' ⟨Nat × Nat × Nat × Nat × Nat × Int × Int × Int × Int × Int × Int × Nat × Int, fun | (L', G', M', C', E', a', m', c', g', f', z', n, i) => ⟨[(0, .one (.c (.loc 1001 0))), (11, .one (.c (.tint .i64))), (13, .one (.c (.slice 110 n))), (14, .one (.c (.slice 51 n))), (15, ci .i64 i)], [(1000, memB L'), (1001, exB L' G' M' C' E' a' m' c' g' f' (z' = 0))], L'⟩, fun | (L', G', M', C', E', a', m', c', g', f', z', n, i) => XI L' G' M' C' E' a' m' c' g' f' ∧ 0 ≤ z' ∧ z' ≤ 1 ∧ L ≤ L' ∧ mu G' a' f' + z' ≤ mu G a f + pz s ∧ (G' : Int) + f' ≤ G + f ∧ 0 ≤ i ∧ i ≤ n ∧ n ≤ 24 ∧ (L' : Int) ≤ L + 2 * i, fun | (L', G', M', C', E', a', m', c', g', f', z', n, i) => (n - i).toNat, ⟨(_, _, _, _, _, _, _, _, _, _, _, _, _), _, _⟩, _⟩))
 all_goals (repeat' (first | exact True.intro | exact Eq.refl _ | exact Iff.refl _ | ((conv => whnf) <;> (first | (with_reducible refine WL.ex ?_) | (with_reducible refine WL.me ?_) | (with_reducible refine WL.mk ?_) | with_reducible refine And.intro ?_ ?_ | with_reducible refine Iff.intro ?_ ?_))))
 all_goals (first | (first | assumption | contradiction | omega | exact pz_of | exact pz_yes | (intro hh; first | contradiction | exact True.intro | omega) | ((try dsimp only [sdual] at *); first | assumption | omega) | ((conv => whnf); (try show (_ : Nat) ≤ _); (try dsimp only); omega)) | (rintro ⟨L', G', M', C', E', a', m', c', g', f', z', n, i⟩ ⟨hx1, hx2, hx3, hx4, hx5, hx6, hx7, hx8, hx9, hx10⟩; have hxm := mu_nn hx1; (repeat' (first | (with_reducible refine Pch.mk ?_; kernel_rfl) | (intro n hr h; replace h := h (by omega) (by omega); subst h) | (intro z hz; first | (replace hz := HZ.at hz (by omega) (by omega); subst hz) | (replace hz := HZ.no hz; subst hz) | (replace hz := HZ.yes hz; subst hz)) | (intro h; try (exfalso; first | contradiction | exact h True.intro)) | ((conv => whnf) <;> (first | (with_reducible refine WL.ex ?_) | (with_reducible refine WL.me ?_) | (with_reducible refine WL.mk ?_) | with_reducible refine And.intro ?_ ?_ | with_reducible exact True.intro | exact Eq.refl _))))))
 all_goals (first | (first | assumption | contradiction | omega | exact pz_of | exact pz_yes | (intro hh; first | contradiction | exact True.intro | omega) | ((try dsimp only [sdual] at *); first | assumption | omega) | ((conv => whnf); (try show (_ : Nat) ≤ _); (try dsimp only); omega)) | ((conv => whnf); first | refine' ⟨((_, _, _, _, _, _, _, _, _, _, _) : sdual.δ), _, _, _, _⟩ | refine' ⟨(_, _, _, _, _, _, _, _, _, _, _, _, _), _, _, _⟩))
 all_goals (repeat' (first | exact True.intro | exact Eq.refl _ | exact Iff.refl _ | ((conv => whnf) <;> (first | (with_reducible refine WL.ex ?_) | (with_reducible refine WL.me ?_) | (with_reducible refine WL.mk ?_) | with_reducible refine And.intro ?_ ?_ | with_reducible refine Iff.intro ?_ ?_))))
 all_goals (first | assumption | contradiction | omega | exact pz_of | exact pz_yes | (intro hh; first | contradiction | exact True.intro | omega) | ((try dsimp only [sdual] at *); first | assumption | omega) | ((conv => whnf); (try show (_ : Nat) ≤ _); (try dsimp only); omega))
def sbelow : Fs where
 α := Nat × Nat × Nat × Nat × Nat × Int × Int × Int × Int × Int × Prop
 δ := Nat × Nat × Nat × Nat × Nat × Int × Int × Int × Int × Int × Int
 A := fun | (L, G, M, C, E, a, m, c, g, f, s) => [.one (.c (.loc 1001 0)), .one (.c (.tint .i64)), .one (.c (.tint .i64)), .one (.c (.tint .i64)), .one (.c (.tint .i64))]
 B := fun | (L, G, M, C, E, a, m, c, g, f, s) => [(1000, memB L), (1001, exB L G M C E a m c g f s)]
 L := fun | (L, G, M, C, E, a, m, c, g, f, s) => L
 get := fun avs bx L => exGet bx L
 pre := fun | (L, G, M, C, E, a, m, c, g, f, s) => XI L G M C E a m c g f ∧ L + 52 ≤ 137438950000
 rel := fun | (L, G, M, C, E, a, m, c, g, f, s), (L', G', M', C', E', a', m', c', g', f', z') => XI L' G' M' C' E' a' m' c' g' f' ∧ 0 ≤ z' ∧ z' ≤ 1 ∧ L ≤ L' ∧ mu G' a' f' + z' ≤ mu G a f + pz s ∧ (G' : Int) + f' ≤ G + f ∧ L' ≤ L + 52
 R := fun | (L, G, M, C, E, a, m, c, g, f, s), (L', G', M', C', E', a', m', c', g', f', z') => .one (.c (.tint .i64))
 B' := fun | (L, G, M, C, E, a, m, c, g, f, s), (L', G', M', C', E', a', m', c', g', f', z') => [(1000, memB L'), (1001, exB L' G' M' C' E' a' m' c' g' f' (z' = 0))]
 L' := fun | (L, G, M, C, E, a, m, c, g, f, s), (L', G', M', C', E', a', m', c', g', f', z') => L'
 reads := [1000, 1001]
 tc := [1000, 1001]
 st := fun p kk => match p with | (L, G, M, C, E, a, m, c, g, f, s) => opnA ([.one (.c (.loc 1001 0)), .one (.c (.tint .i64)), .one (.c (.tint .i64)), .one (.c (.tint .i64)), .one (.c (.tint .i64))]) fun avs0 => kk avs0 [(1000, memB L), (1001, exB L G M C E a m c g f (pz s = 0))] (L)
 st_ok := fun ⟨L, G, M, C, E, a, m, c, g, f, s⟩ _ h => opnA_imp (fun _ h => opE_st h) h
 cps := fun p kk => match p with | (L, G, M, C, E, a, m, c, g, f, s) => ∀ z : Int, HZ s z → ∀ L' : Nat, ∀ G' : Nat, ∀ M' : Nat, ∀ C' : Nat, ∀ E' : Nat, ∀ a' : Int, ∀ m' : Int, ∀ c' : Int, ∀ g' : Int, ∀ f' : Int, ∀ z' : Int, (XI L' G' M' C' E' a' m' c' g' f') → (0 ≤ z') → (z' ≤ 1) → (L ≤ L') → (mu G' a' f' + z' ≤ mu G a f + z) → ((G' : Int) + f' ≤ G + f) → (L' ≤ L + 52) → kk (.one (.c (.tint .i64))) ([(1000, memB L'), (1001, exB L' G' M' C' E' a' m' c' g' f' (z' = 0))]) (L')
 cur := fun ⟨L, G, M, C, E, a, m, c, g, f, s⟩ _ h ⟨L', G', M', C', E', a', m', c', g', f', z'⟩ ⟨h1, h2, h3, h4, h5, h6, h7⟩ => opE_ok (h (pz s) (pz_hz s) L' G' M' C' E' a' m' c' g' f' z' h1 h2 h3 h4 h5 h6 h7)
set_option maxHeartbeats 8000000 in
theorem sat_below : Sat Tryz.prog tab 96 sbelow.spec := by
 refine sat_of ⟨tab, [(81, sxnode.spec), (86, sLookup.spec), (70, srenew.spec)], []⟩ (fun _ => ⟨.done, [], false, []⟩) mixed_ok tab_ok eq_nil (satall_cons sat_xnode (satall_cons sat_Lookup (satall_cons sat_renew sat_nil))) Tryz.func96 rfl rfl sbelow ⟨fun ⟨L, G, M, C, E, a, m, c, g, f, s⟩ => rfl, fun ⟨L, G, M, C, E, a, m, c, g, f, s⟩ => ⟨rfl, rfl⟩, fun ⟨L, G, M, C, E, a, m, c, g, f, s⟩ ⟨L', G', M', C', E', a', m', c', g', f', z'⟩ => ⟨rfl, rfl⟩, fun ⟨L, G, M, C, E, a, m, c, g, f, s⟩ ⟨L', G', M', C', E', a', m', c', g', f', z'⟩ => rfl, rfl, rfl⟩ (N := 44) rfl (by kernel_rfl) (fun ⟨L, G, M, C, E, a, m, c, g, f, s⟩ => Nat.le_of_ble_eq_true rfl) ?_
 intro p hp
 obtain ⟨L, G, M, C, E, a, m, c, g, f, s⟩ := p
 obtain ⟨hX, hL⟩ := hp
 have hz0 := pz_0 s
 have hz1 := pz_1 s
 have hL0 := hX.L0
 repeat' (first | (with_reducible refine Pch.mk ?_; kernel_rfl) | (intro n hr h; replace h := h (by omega) (by omega); subst h) | (intro z hz; first | (replace hz := HZ.at hz (by omega) (by omega); subst hz) | (replace hz := HZ.no hz; subst hz) | (replace hz := HZ.yes hz; subst hz)) | (intro h; try (exfalso; first | contradiction | exact h True.intro)) | ((conv => whnf) <;> (first | (with_reducible refine WL.ex ?_) | (with_reducible refine WL.me ?_) | (with_reducible refine WL.mk ?_) | with_reducible refine And.intro ?_ ?_ | with_reducible exact True.intro | exact Eq.refl _)))
 all_goals (first | (first | assumption | contradiction | omega | exact pz_of | exact pz_yes | (intro hh; first | contradiction | exact True.intro | omega) | ((try dsimp only [sbelow] at *); first | assumption | omega) | ((conv => whnf); (try show (_ : Nat) ≤ _); (try dsimp only); omega)) | ((conv => whnf); refine' ⟨((_, _, _, _, _, _, _, _, _, _, _) : sbelow.δ), _, _, _, _⟩))
 all_goals (repeat' (first | exact True.intro | exact Eq.refl _ | exact Iff.refl _ | ((conv => whnf) <;> (first | (with_reducible refine WL.ex ?_) | (with_reducible refine WL.me ?_) | (with_reducible refine WL.mk ?_) | with_reducible refine And.intro ?_ ?_ | with_reducible refine Iff.intro ?_ ?_))))
 all_goals (first | assumption | contradiction | omega | exact pz_of | exact pz_yes | (intro hh; first | contradiction | exact True.intro | omega) | ((try dsimp only [sbelow] at *); first | assumption | omega) | ((conv => whnf); (try show (_ : Nat) ≤ _); (try dsimp only); omega))
end Tv
end Go.Proofs.YtpabdmcbahmjnaaGreat
