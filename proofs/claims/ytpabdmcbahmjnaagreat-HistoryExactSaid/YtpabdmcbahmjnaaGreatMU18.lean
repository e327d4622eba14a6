/- An iterator: ENTER, NEXT; what is refused. -/
import Derived.Test.YtpabdmcbahmjnaaGreatMUD
namespace Go.Proofs.YtpabdmcbahmjnaaGreat
namespace Tv
open Go Go.RowKit
set_option linter.unusedSimpArgs false
set_option linter.unusedVariables false
structure IR (n : Int) : Prop where
 h : InR .i64 n
theorem inr_i64 {n : Int} (h : InR .i64 n) : -9223372036854775808 ≤ n ∧ n ≤ 9223372036854775807 := h
def senter : Fs where
 α := Nat × Nat × Nat × Nat × Nat × Int × Int × Int × Int × Int × Prop × Nat × Nat
 δ := Nat × Nat × Nat × Nat × Nat × Int × Int × Int × Int × Int × Int × Nat × Nat
 A := fun | (L, G, M, C, E, a, m, c, g, f, s, n, k) => [.one (.c (.loc 1001 0)), .one (.agg [.tbool, .slice 168 n, .slice 139 k]), .one (.c (.tint .i64))]
 B := fun | (L, G, M, C, E, a, m, c, g, f, s, n, k) => [(1000, memB L), (1001, exB L G M C E a m c g f s)]
 L := fun | (L, G, M, C, E, a, m, c, g, f, s, n, k) => L
 get := fun avs bx L => match avs, exGet bx L with | [_, .one (.agg [_, .slice _ n, .slice _ k]), _], some (L, G, M, C, E, a, m, c, g, f, s) => some (L, G, M, C, E, a, m, c, g, f, s, n, k) | _, _ => none
 pre := fun | (L, G, M, C, E, a, m, c, g, f, s, n, k) => XI L G M C E a m c g f ∧ L + 24 ≤ 137438950000 ∧ n ≤ L ∧ k ≤ L
 rel := fun | (L, G, M, C, E, a, m, c, g, f, s, n, k), (L', G', M', C', E', a', m', c', g', f', z', n', k') => XI L' G' M' C' E' a' m' c' g' f' ∧ 0 ≤ z' ∧ z' ≤ 1 ∧ L ≤ L' ∧ mu G' a' f' + z' ≤ mu G a f ∧ (G' : Int) + f' ≤ G + f ∧ L' ≤ L + 24 ∧ n' ≤ n + 1 ∧ n' ≤ L' ∧ k' ≤ L'
 R := fun | (L, G, M, C, E, a, m, c, g, f, s, n, k), (L', G', M', C', E', a', m', c', g', f', z', n', k') => .one (.agg [.tbool, .slice 168 n', .slice 139 k'])
 B' := fun | (L, G, M, C, E, a, m, c, g, f, s, n, k), (L', G', M', C', E', a', m', c', g', f', z', n', k') => [(1000, memB L'), (1001, exB L' G' M' C' E' a' m' c' g' f' (z' = 0))]
 L' := fun | (L, G, M, C, E, a, m, c, g, f, s, n, k), (L', G', M', C', E', a', m', c', g', f', z', n', k') => L'
 reads := [1000, 1001]
 tc := [1000, 1001]
 st := fun p kk => match p with | (L, G, M, C, E, a, m, c, g, f, s, n, k) => opnA ([.one (.c (.loc 1001 0)), .one (.agg [.tbool, .slice 168 n, .slice 139 k]), .one (.c (.tint .i64))]) fun avs0 => kk avs0 [(1000, memB L), (1001, exB L G M C E a m c g f (pz s = 0))] (L)
 st_ok := fun ⟨L, G, M, C, E, a, m, c, g, f, s, n, k⟩ _ h => opnA_imp (fun _ h => opE_st h) h
 cps := fun p kk => match p with | (L, G, M, C, E, a, m, c, g, f, s, n, k) => ∀ z : Int, HZ s z → ∀ L' : Nat, ∀ G' : Nat, ∀ M' : Nat, ∀ C' : Nat, ∀ E' : Nat, ∀ a' : Int, ∀ m' : Int, ∀ c' : Int, ∀ g' : Int, ∀ f' : Int, ∀ z' : Int, ∀ n' : Nat, ∀ k' : Nat, (XI L' G' M' C' E' a' m' c' g' f') → (0 ≤ z') → (z' ≤ 1) → (L ≤ L') → (mu G' a' f' + z' ≤ mu G a f) → ((G' : Int) + f' ≤ G + f) → (L' ≤ L + 24) → (n' ≤ n + 1) → (n' ≤ L') → (k' ≤ L') → kk (.one (.agg [.tbool, .slice 168 n', .slice 139 k'])) ([(1000, memB L'), (1001, exB L' G' M' C' E' a' m' c' g' f' (z' = 0))]) (L')
 cur := fun ⟨L, G, M, C, E, a, m, c, g, f, s, n, k⟩ _ h ⟨L', G', M', C', E', a', m', c', g', f', z', n', k'⟩ ⟨h1, h2, h3, h4, h5, h6, h7, h8, h9, h10⟩ => opE_ok (h (pz s) (pz_hz s) L' G' M' C' E' a' m' c' g' f' z' n' k' h1 h2 h3 h4 h5 h6 h7 h8 h9 h10)
set_option maxHeartbeats 8000000 in
theorem sat_enter : Sat Tryz.prog tab 102 senter.spec := by
 refine sat_of ⟨tab, [(66, sread.spec), (81, sxnode.spec)], []⟩ (fun _ => ⟨.done, [], false, []⟩) mixed_ok tab_ok eq_nil (satall_cons sat_read (satall_cons sat_xnode sat_nil)) Tryz.func102 rfl rfl senter ⟨fun ⟨L, G, M, C, E, a, m, c, g, f, s, n, k⟩ => rfl, fun ⟨L, G, M, C, E, a, m, c, g, f, s, n, k⟩ => ⟨rfl, rfl⟩, fun ⟨L, G, M, C, E, a, m, c, g, f, s, n, k⟩ ⟨L', G', M', C', E', a', m', c', g', f', z', n', k'⟩ => ⟨rfl, rfl⟩, fun ⟨L, G, M, C, E, a, m, c, g, f, s, n, k⟩ ⟨L', G', M', C', E', a', m', c', g', f', z', n', k'⟩ => rfl, rfl, rfl⟩ (N := 48) rfl (by kernel_rfl) (fun ⟨L, G, M, C, E, a, m, c, g, f, s, n, k⟩ => Nat.le_of_ble_eq_true rfl) ?_
 intro p hp
 obtain ⟨L, G, M, C, E, a, m, c, g, f, s, n, k⟩ := p
 obtain ⟨hX, hL, hn, hk⟩ := hp
 have hz0 := pz_0 s
 have hz1 := pz_1 s
 have hL0 := hX.L0
 repeat' (first | (with_reducible refine Pch.mk ?_; kernel_rfl) | (intro n hr h; replace h := h (by omega) (by omega); subst h) | (intro z hz; first | (replace hz := HZ.at hz (by omega) (by omega); subst hz) | (replace hz := HZ.no hz; subst hz) | (replace hz := HZ.yes hz; subst hz)) | (intro h; try (exfalso; first | contradiction | exact h True.intro)) | ((conv => whnf) <;> (first | (with_reducible refine WL.ex ?_) | (with_reducible refine WL.me ?_) | (with_reducible refine WL.mk ?_) | with_reducible refine And.intro ?_ ?_ | with_reducible exact True.intro | exact Eq.refl _)))
 all_goals (first | (first | assumption | exact XI.up (by assumption) (by omega) | contradiction | omega | exact pz_of | exact pz_yes | (intro hh; first | contradiction | exact True.intro | omega) | ((try dsimp only [senter] at *); first | assumption | omega) | ((conv => whnf); (try show (_ : Nat) ≤ _); (try dsimp only); omega)) | ((conv => whnf); refine' ⟨((_, _, _, _, _, _, _, _, _, _, _, _, _) : senter.δ), _, _, _, _⟩))
 all_goals (repeat' (first | exact True.intro | exact Eq.refl _ | exact Iff.refl _ | ((conv => whnf) <;> (first | (with_reducible refine WL.ex ?_) | (with_reducible refine WL.me ?_) | (with_reducible refine WL.mk ?_) | with_reducible refine And.intro ?_ ?_ | with_reducible refine Iff.intro ?_ ?_))))
 all_goals (first | assumption | exact XI.up (by assumption) (by omega) | contradiction | omega | exact pz_of | exact pz_yes | (intro hh; first | contradiction | exact True.intro | omega) | ((try dsimp only [senter] at *); first | assumption | omega) | ((conv => whnf); (try show (_ : Nat) ≤ _); (try dsimp only); omega))
def sstep : Fs where
 α := Nat × Nat × Nat × Nat × Nat × Int × Int × Int × Int × Int × Prop × Nat × Nat
 δ := Nat × Nat × Nat × Nat × Nat × Int × Int × Int × Int × Int × Int
 A := fun | (L, G, M, C, E, a, m, c, g, f, s, n, k) => [.one (.c (.loc 1001 0)), .one (.agg [.tbool, .slice 168 n, .slice 139 k])]
 B := fun | (L, G, M, C, E, a, m, c, g, f, s, n, k) => [(1000, memB L), (1001, exB L G M C E a m c g f s)]
 L := fun | (L, G, M, C, E, a, m, c, g, f, s, n, k) => L
 get := fun avs bx L => match avs, exGet bx L with | [_, .one (.agg [_, .slice _ n, .slice _ k])], some (L, G, M, C, E, a, m, c, g, f, s) => some (L, G, M, C, E, a, m, c, g, f, s, n, k) | _, _ => none
 pre := fun | (L, G, M, C, E, a, m, c, g, f, s, n, k) => XI L G M C E a m c g f ∧ (L : Int) + 256 * (mu G a f + 1) + 64 ≤ 137438950000 ∧ n ≤ L ∧ k ≤ L
 rel := fun | (L, G, M, C, E, a, m, c, g, f, s, n, k), (L', G', M', C', E', a', m', c', g', f', z') => XI L' G' M' C' E' a' m' c' g' f' ∧ 0 ≤ z' ∧ z' ≤ 1 ∧ L ≤ L' ∧ mu G' a' f' + z' ≤ mu G a f + pz s ∧ (G' : Int) + f' ≤ G + f ∧ (L' : Int) + 256 * (mu G' a' f' + z') ≤ L + 256 * (mu G a f + pz s) + 64
 R := fun | (L, G, M, C, E, a, m, c, g, f, s, n, k), (L', G', M', C', E', a', m', c', g', f', z') => .tup [.agg [.tbool, .sl 168 L', .sl 139 L'], .agg [.str, .tint .u64], .c .tbool]
 B' := fun | (L, G, M, C, E, a, m, c, g, f, s, n, k), (L', G', M', C', E', a', m', c', g', f', z') => [(1000, memB L'), (1001, exB L' G' M' C' E' a' m' c' g' f' (z' = 0))]
 L' := fun | (L, G, M, C, E, a, m, c, g, f, s, n, k), (L', G', M', C', E', a', m', c', g', f', z') => L'
 reads := [1000, 1001]
 tc := [1000, 1001]
 st := fun p kk => match p with | (L, G, M, C, E, a, m, c, g, f, s, n, k) => opnA ([.one (.c (.loc 1001 0)), .one (.agg [.tbool, .slice 168 n, .slice 139 k])]) fun avs0 => kk avs0 [(1000, memB L), (1001, exB L G M C E a m c g f (pz s = 0))] (L)
 st_ok := fun ⟨L, G, M, C, E, a, m, c, g, f, s, n, k⟩ _ h => opnA_imp (fun _ h => opE_st h) h
 cps := fun p kk => match p with | (L, G, M, C, E, a, m, c, g, f, s, n, k) => ∀ z : Int, HZ s z → ∀ L' : Nat, ∀ G' : Nat, ∀ M' : Nat, ∀ C' : Nat, ∀ E' : Nat, ∀ a' : Int, ∀ m' : Int, ∀ c' : Int, ∀ g' : Int, ∀ f' : Int, ∀ z' : Int, (XI L' G' M' C' E' a' m' c' g' f') → (0 ≤ z') → (z' ≤ 1) → (L ≤ L') → (mu G' a' f' + z' ≤ mu G a f + z) → ((G' : Int) + f' ≤ G + f) → ((L' : Int) + 256 * (mu G' a' f' + z') ≤ L + 256 * (mu G a f + z) + 64) → kk (.tup [.agg [.tbool, .sl 168 L', .sl 139 L'], .agg [.str, .tint .u64], .c .tbool]) ([(1000, memB L'), (1001, exB L' G' M' C' E' a' m' c' g' f' (z' = 0))]) (L')
 cur := fun ⟨L, G, M, C, E, a, m, c, g, f, s, n, k⟩ _ h ⟨L', G', M', C', E', a', m', c', g', f', z'⟩ ⟨h1, h2, h3, h4, h5, h6, h7⟩ => opE_ok (h (pz s) (pz_hz s) L' G' M' C' E' a' m' c' g' f' z' h1 h2 h3 h4 h5 h6 h7)
set_option maxHeartbeats 8000000 in
theorem sat_step : Sat Tryz.prog tab 77 sstep.spec := by
 refine sat_of ⟨tab, [(80, sload.spec), (102, senter.spec), (81, sxnode.spec), (103, sHas.spec), (86, sLookup.spec)], []⟩ (fun id => match assoc [(3, ⟨.take 0 (.take 2 (.take 3 (.take 4 (.take 5 (.take 6 (.take 7 (.take 1 (.step 8 (.step 9 (.step 10 (.brk (.step 11 (.done))))))))))))), [3], false, [11]⟩), (8, ⟨.take 0 (.take 1 (.step 2 (.step 3 (.take 4 (.done))))), [3, 7], false, []⟩), (23, ⟨.take 1 (.take 3 (.take 0 (.take 2 (.take 4 (.take 5 (.step 6 (.step 7 (.take 8 (.done))))))))), [3, 14], false, []⟩)] id with | some p => p | none => ⟨.done, [], false, []⟩) mixed_ok tab_ok eq_nil (satall_cons sat_load (satall_cons sat_enter (satall_cons sat_xnode (satall_cons sat_Has (satall_cons sat_Lookup sat_nil))))) Tryz.func77 rfl rfl sstep ⟨fun ⟨L, G, M, C, E, a, m, c, g, f, s, n, k⟩ => rfl, fun ⟨L, G, M, C, E, a, m, c, g, f, s, n, k⟩ => ⟨rfl, rfl⟩, fun ⟨L, G, M, C, E, a, m, c, g, f, s, n, k⟩ ⟨L', G', M', C', E', a', m', c', g', f', z'⟩ => ⟨rfl, rfl⟩, fun ⟨L, G, M, C, E, a, m, c, g, f, s, n, k⟩ ⟨L', G', M', C', E', a', m', c', g', f', z'⟩ => rfl, rfl, rfl⟩ (N := 122) rfl (by kernel_rfl) (fun ⟨L, G, M, C, E, a, m, c, g, f, s, n, k⟩ => Nat.le_of_ble_eq_true rfl) ?_
 intro p hp
 obtain ⟨L, G, M, C, E, a, m, c, g, f, s, n, k⟩ := p
 obtain ⟨hX, hL, hn, hk⟩ := hp
 have hz0 := pz_0 s
 have hz1 := pz_1 s
 have hL0 := hX.L0
 have hX0 := hX
 rw [XI_iff] at hX0
 have hmu := mu_nn hX
 repeat' (first | (with_reducible refine Pch.mk ?_; kernel_rfl) | (intro n hr h; replace h := h (by omega) (by omega); subst h) | (intro z hz; first | (replace hz := HZ.at hz (by omega) (by omega); subst hz) | (replace hz := HZ.no hz; subst hz) | (replace hz := HZ.yes hz; subst hz)) | (intro h; try (exfalso; first | contradiction | exact h True.intro)) | ((conv => whnf) <;> (first | (with_reducible refine WL.ex ?_) | (with_reducible refine WL.me ?_) | (with_reducible refine WL.mk ?_) | with_reducible refine And.intro ?_ ?_ | with_reducible exact True.intro | exact Eq.refl _)))
 all_goals (first | (first | assumption | exact IR.mk (by assumption) | exact XI.up (by assumption) (by omega) | contradiction | omega | exact pz_of | exact pz_yes | (intro hh; first | contradiction | exact True.intro | omega) | ((try dsimp only [sstep] at *); first | assumption | omega) | ((conv => whnf); (try show (_ : Nat) ≤ _); (try dsimp only); omega)) | ((conv => whnf); refine' ⟨((_, _, _, _, _, _, _, _, _, _, _) : sstep.δ), _, _, _, _⟩) | ((conv => whnf); refine' ⟨Nat × Nat × Nat × Nat × Nat × Int × Int × Int × Int × Int × Int × Nat × Nat, fun | (L', G', M', C', E', a', m', c', g', f', z', p, r) => ⟨[(0, .one (.c (.loc 1001 0))), (3, .one (.c (.loc 3 0))), (4, .one (.c (.loc 4 0))), (5, .one (.c (.loc 5 0)))], [(1000, memB L'), (1001, exB L' G' M' C' E' a' m' c' g' f' (z' = 0)), (3, [.tbool, .slice 168 p, .slice 139 r]), (4, [.tbool, .sl 168 L', .sl 139 L']), (5, [.str, .tint .u64])], L'⟩, fun | (L', G', M', C', E', a', m', c', g', f', z', p, r) => XI L' G' M' C' E' a' m' c' g' f' ∧ 0 ≤ z' ∧ z' ≤ 1 ∧ L ≤ L' ∧ mu G' a' f' + z' ≤ mu G a f + pz s ∧ (G' : Int) + f' ≤ G + f ∧ (L' : Int) + 256 * (mu G' a' f' + z') ≤ L + 256 * (mu G a f + pz s) + 64 ∧ p ≤ L' ∧ r ≤ L', fun | (L', G', M', C', E', a', m', c', g', f', z', p, r) => (2 * (mu G' a' f' + z') + p).toNat, ⟨(_, _, _, _, _, _, _, _, _, _, _, _, _), _, _⟩, _⟩))
 all_goals (repeat' (first | exact True.intro | exact Eq.refl _ | exact Iff.refl _ | ((conv => whnf) <;> (first | (with_reducible refine WL.ex ?_) | (with_reducible refine WL.me ?_) | (with_reducible refine WL.mk ?_) | with_reducible refine And.intro ?_ ?_ | with_reducible refine Iff.intro ?_ ?_))))
 all_goals (first | (first | assumption | exact IR.mk (by assumption) | exact XI.up (by assumption) (by omega) | contradiction | omega | exact pz_of | exact pz_yes | (intro hh; first | contradiction | exact True.intro | omega) | ((try dsimp only [sstep] at *); first | assumption | omega) | ((conv => whnf); (try show (_ : Nat) ≤ _); (try dsimp only); omega)) | (rintro ⟨L', G', M', C', E', a', m', c', g', f', z', p, r⟩ ⟨hx1, hx2, hx3, hx4, hx5, hx6, hx7, hx8, hx9⟩; have hxm := mu_nn hx1; (repeat' (first | (with_reducible refine Pch.mk ?_; kernel_rfl) | (intro n hr h; replace h := h (by omega) (by omega); subst h) | (intro z hz; first | (replace hz := HZ.at hz (by omega) (by omega); subst hz) | (replace hz := HZ.no hz; subst hz) | (replace hz := HZ.yes hz; subst hz)) | (intro h; try (exfalso; first | contradiction | exact h True.intro)) | ((conv => whnf) <;> (first | (with_reducible refine WL.ex ?_) | (with_reducible refine WL.me ?_) | (with_reducible refine WL.mk ?_) | with_reducible refine And.intro ?_ ?_ | with_reducible exact True.intro | exact Eq.refl _))))))
 all_goals (first | (first | assumption | exact IR.mk (by assumption) | exact XI.up (by assumption) (by omega) | contradiction | omega | exact pz_of | exact pz_yes | (intro hh; first | contradiction | exact True.intro | omega) | ((try dsimp only [sstep] at *); first | assumption | omega) | ((conv => whnf); (try show (_ : Nat) ≤ _); (try dsimp only); omega)) | ((conv => whnf); refine' ⟨((_, _, _, _, _, _, _, _, _, _, _) : sstep.δ), _, _, _, _⟩) | ((conv => whnf); refine' ⟨(_, _, _, _, _, _, _, _, _, _, _, _, _), _, _, _⟩) | ((conv => whnf); refine' ⟨Int, fun | i => ⟨[(0, .one (.c (.loc 1001 0))), (3, .one (.c (.loc 3 0))), (4, .one (.c (.loc 4 0))), (5, .one (.c (.loc 5 0))), (8, ci .i64 ((p : Int) - 1)), (9, .one (.c (.loc 9 0))), (10, .one (.c (.loc 10 0))), (11, ci .i64 i)], [(1000, memB L'), (1001, exB L' G' M' C' E' a' m' c' g' f' (z' = 0)), (3, [.tbool, .slice 168 p, .slice 139 r]), (4, [.tbool, .sl 168 L', .sl 139 L']), (5, [.str, .tint .u64]), (9, [.tint .i64, .tint .i64]), (10, ndT L')], L'⟩, fun | i => IR i, fun | i => (64 - i).toNat, ⟨_, _, _⟩, _⟩))
 all_goals (repeat' (first | exact True.intro | exact Eq.refl _ | exact Iff.refl _ | ((conv => whnf) <;> (first | (with_reducible refine WL.ex ?_) | (with_reducible refine WL.me ?_) | (with_reducible refine WL.mk ?_) | with_reducible refine And.intro ?_ ?_ | with_reducible refine Iff.intro ?_ ?_))))
 all_goals (first | (first | assumption | exact IR.mk (by assumption) | exact XI.up (by assumption) (by omega) | contradiction | omega | exact pz_of | exact pz_yes | (intro hh; first | contradiction | exact True.intro | omega) | ((try dsimp only [sstep] at *); first | assumption | omega) | ((conv => whnf); (try show (_ : Nat) ≤ _); (try dsimp only); omega)) | (rintro i hx1; have hi0 := inr_i64 hx1.h; (repeat' (first | (with_reducible refine Pch.mk ?_; kernel_rfl) | (intro n hr h; replace h := h (by omega) (by omega); subst h) | (intro z hz; first | (replace hz := HZ.at hz (by omega) (by omega); subst hz) | (replace hz := HZ.no hz; subst hz) | (replace hz := HZ.yes hz; subst hz)) | (intro h; try (exfalso; first | contradiction | exact h True.intro)) | ((conv => whnf) <;> (first | (with_reducible refine WL.ex ?_) | (with_reducible refine WL.me ?_) | (with_reducible refine WL.mk ?_) | with_reducible refine And.intro ?_ ?_ | with_reducible exact True.intro | exact Eq.refl _))))))
 all_goals (first | (first | assumption | exact IR.mk (by assumption) | exact XI.up (by assumption) (by omega) | contradiction | omega | exact pz_of | exact pz_yes | (intro hh; first | contradiction | exact True.intro | omega) | ((try dsimp only [sstep] at *); first | assumption | omega) | ((conv => whnf); (try show (_ : Nat) ≤ _); (try dsimp only); omega)) | ((conv => whnf); refine' ⟨((_, _, _, _, _, _, _, _, _, _, _) : sstep.δ), _, _, _, _⟩) | ((conv => whnf); refine' ⟨(_, _, _, _, _, _, _, _, _, _, _, _, _), _, _, _⟩) | ((conv => whnf); refine' ⟨_, _, _, _⟩))
 all_goals (repeat' (first | exact True.intro | exact Eq.refl _ | exact Iff.refl _ | ((conv => whnf) <;> (first | (with_reducible refine WL.ex ?_) | (with_reducible refine WL.me ?_) | (with_reducible refine WL.mk ?_) | with_reducible refine And.intro ?_ ?_ | with_reducible refine Iff.intro ?_ ?_))))
 all_goals (first | assumption | exact IR.mk (by assumption) | exact XI.up (by assumption) (by omega) | contradiction | omega | exact pz_of | exact pz_yes | (intro hh; first | contradiction | exact True.intro | omega) | ((try dsimp only [sstep] at *); first | assumption | omega) | ((conv => whnf); (try show (_ : Nat) ≤ _); (try dsimp only); omega))
def screfused : Fs where
 α := Nat
 δ := Unit
 A := fun | L => [.one (.agg [.tint .i64, .tint .i64, .tbool, .tint .i64, .tint .i64, .tint .i64, .tint .i64, .tint .u64, .tint .u64, .str, .tint .u64, .tint .u64, .tint .i64, .tbool, .tbool, .sl 168 L, .sl 139 L, .tint .i64, .tbool, .tint .u64, .str, .tint .i64, .tint .i64, .tint .i64, .tbool])]
 B := fun | L => []
 L := fun | L => L
 get := fun avs bx L => some L
 pre := fun | L => 64 ≤ L
 rel := fun | L, () => True
 R := fun | L, () => .one (.c (.tint .i64))
 B' := fun | L, () => []
 L' := fun | L, () => L
 reads := []
 tc := []
 st := fun p kk => match p with | L => opnA ([.one (.agg [.tint .i64, .tint .i64, .tbool, .tint .i64, .tint .i64, .tint .i64, .tint .i64, .tint .u64, .tint .u64, .str, .tint .u64, .tint .u64, .tint .i64, .tbool, .tbool, .sl 168 L, .sl 139 L, .tint .i64, .tbool, .tint .u64, .str, .tint .i64, .tint .i64, .tint .i64, .tbool])]) fun avs0 => opnB ([]) fun bx0 => kk avs0 bx0 (L)
 st_ok := fun L _ h => opnA_imp (fun _ h => Or.inl h) h
 cps := fun p kk => match p with | L => opnB ([]) fun bx0 => kk (.one (.c (.tint .i64))) bx0 (L)
 cur := fun L _ h () _ => (Or.inl (h ))
set_option maxHeartbeats 8000000 in
theorem sat_crefused : Sat Tryz.prog tab 64 screfused.spec := by
 refine sat_of ⟨tab, [(61, sValidKey.spec)], []⟩ (fun _ => ⟨.done, [], false, []⟩) mixed_ok tab_ok eq_nil (satall_cons sat_ValidKey sat_nil) Tryz.func64 rfl rfl screfused ⟨fun L => rfl, fun L => ⟨rfl, rfl⟩, fun L _ => ⟨rfl, rfl⟩, fun L _ => rfl, rfl, rfl⟩ (N := 35) rfl (by kernel_rfl) (fun L => Nat.le_of_ble_eq_true rfl) ?_
 intro (L : Nat) hp
 repeat' (first | (with_reducible refine Pch.mk ?_; kernel_rfl) | (intro n hr h; replace h := h (by omega) (by omega); subst h) | (intro z hz; first | (replace hz := HZ.at hz (by omega) (by omega); subst hz) | (replace hz := HZ.no hz; subst hz) | (replace hz := HZ.yes hz; subst hz)) | (intro h; try (exfalso; first | contradiction | exact h True.intro)) | ((conv => whnf) <;> (first | (with_reducible refine WL.ex ?_) | (with_reducible refine WL.me ?_) | (with_reducible refine WL.mk ?_) | with_reducible refine And.intro ?_ ?_ | with_reducible exact True.intro | exact Eq.refl _)))
 all_goals (first | (first | assumption | contradiction | omega | ((try dsimp only [screfused] at *); omega) | ((conv => whnf); (try show (_ : Nat) ≤ _); (try dsimp only); omega)) | ((conv => whnf); refine' ⟨(() : screfused.δ), _, _, _, _⟩))
 all_goals (repeat' (first | exact True.intro | exact Eq.refl _ | exact Iff.refl _ | ((conv => whnf) <;> (first | (with_reducible refine WL.ex ?_) | (with_reducible refine WL.me ?_) | (with_reducible refine WL.mk ?_) | with_reducible refine And.intro ?_ ?_ | with_reducible refine Iff.intro ?_ ?_))))
 all_goals (first | assumption | contradiction | omega | ((try dsimp only [screfused] at *); omega) | ((conv => whnf); (try show (_ : Nat) ≤ _); (try dsimp only); omega))
end Tv
end Go.Proofs.YtpabdmcbahmjnaaGreat
