/- UP, COPY, SNAPSHOT, CLEAR. -/
import Derived.Test.YtpabdmcbahmjnaaGreatMU11
namespace Go.Proofs.YtpabdmcbahmjnaaGreat
namespace Tv
open Go Go.RowKit
set_option linter.unusedSimpArgs false
set_option linter.unusedVariables false
def sup : Fs where
 α := Nat × Nat × Nat × Nat × Nat × Int × Int × Int × Int × Int × Prop × Nat
 δ := Nat × Nat × Nat × Nat × Nat × Int × Int × Int × Int × Int × Int
 A := fun | (L, G, M, C, E, a, m, c, g, f, s, n) => [.one (.c (.loc 1001 0)), .one (.c (.slice 51 n)), .one (.c (.tint .u64))]
 B := fun | (L, G, M, C, E, a, m, c, g, f, s, n) => [(1000, memB L), (1001, exB L G M C E a m c g f s)]
 L := fun | (L, G, M, C, E, a, m, c, g, f, s, n) => L
 get := fun avs bx L => match avs, exGet bx L with | [_, .one (.c (.slice _ n)), _], some (L, G, M, C, E, a, m, c, g, f, s) => some (L, G, M, C, E, a, m, c, g, f, s, n) | _, _ => none
 pre := fun | (L, G, M, C, E, a, m, c, g, f, s, n) => XI L G M C E a m c g f ∧ (L : Int) + 256 * (mu G a f + 1) + 0 ≤ 137438950000 ∧ n ≤ 200000000000
 rel := fun | (L, G, M, C, E, a, m, c, g, f, s, n), (L', G', M', C', E', a', m', c', g', f', z') => XI L' G' M' C' E' a' m' c' g' f' ∧ 0 ≤ z' ∧ z' ≤ 1 ∧ L ≤ L' ∧ mu G' a' f' + z' ≤ mu G a f + pz s ∧ (G' : Int) + f' ≤ G + f ∧ (L' : Int) + 256 * (mu G' a' f' + z') ≤ L + 256 * (mu G a f + pz s) + 0
 R := fun | (L, G, M, C, E, a, m, c, g, f, s, n), (L', G', M', C', E', a', m', c', g', f', z') => .tup []
 B' := fun | (L, G, M, C, E, a, m, c, g, f, s, n), (L', G', M', C', E', a', m', c', g', f', z') => [(1000, memB L'), (1001, exB L' G' M' C' E' a' m' c' g' f' (z' = 0))]
 L' := fun | (L, G, M, C, E, a, m, c, g, f, s, n), (L', G', M', C', E', a', m', c', g', f', z') => L'
 reads := [1000, 1001]
 tc := [1000, 1001]
 st := fun p kk => match p with | (L, G, M, C, E, a, m, c, g, f, s, n) => opnA ([.one (.c (.loc 1001 0)), .one (.c (.slice 51 n)), .one (.c (.tint .u64))]) fun avs0 => kk avs0 [(1000, memB L), (1001, exB L G M C E a m c g f (pz s = 0))] (L)
 st_ok := fun ⟨L, G, M, C, E, a, m, c, g, f, s, n⟩ _ h => opnA_imp (fun _ h => opE_st h) h
 cps := fun p kk => match p with | (L, G, M, C, E, a, m, c, g, f, s, n) => ∀ z : Int, HZ s z → ∀ L' : Nat, ∀ G' : Nat, ∀ M' : Nat, ∀ C' : Nat, ∀ E' : Nat, ∀ a' : Int, ∀ m' : Int, ∀ c' : Int, ∀ g' : Int, ∀ f' : Int, ∀ z' : Int, (XI L' G' M' C' E' a' m' c' g' f') → (0 ≤ z') → (z' ≤ 1) → (L ≤ L') → (mu G' a' f' + z' ≤ mu G a f + z) → ((G' : Int) + f' ≤ G + f) → ((L' : Int) + 256 * (mu G' a' f' + z') ≤ L + 256 * (mu G a f + z) + 0) → kk (.tup []) ([(1000, memB L'), (1001, exB L' G' M' C' E' a' m' c' g' f' (z' = 0))]) (L')
 cur := fun ⟨L, G, M, C, E, a, m, c, g, f, s, n⟩ _ h ⟨L', G', M', C', E', a', m', c', g', f', z'⟩ ⟨h1, h2, h3, h4, h5, h6, h7⟩ => opE_ok (h (pz s) (pz_hz s) L' G' M' C' E' a' m' c' g' f' z' h1 h2 h3 h4 h5 h6 h7)
set_option maxHeartbeats 8000000 in
theorem sat_up : Sat Tryz.prog tab 98 sup.spec := by
 refine sat_of ⟨tab, [(66, sread.spec), (81, sxnode.spec), (71, sclean.spec)], []⟩ (fun id => match assoc [(3, ⟨.take 0 (.take 1 (.take 2 (.take 3 (.take 4 (.take 6 (.take 7 (.take 8 (.take 5 (.step 9 (.brk (.step 10 (.take 11 (.done))))))))))))), [1001], false, [10]⟩), (5, ⟨.take 0 (.take 1 (.take 2 (.take 3 (.take 4 (.take 6 (.take 7 (.take 8 (.take 9 (.take 11 (.take 12 (.take 13 (.take 15 (.take 16 (.take 17 (.take 5 (.fork 10 (.step 14 (.brk (.step 18 (.done)))) 14 (.step 10 (.brk (.step 18 (.done)))))))))))))))))))), [1001], false, [18]⟩)] id with | some p => p | none => ⟨.done, [], false, []⟩) mixed_ok tab_ok eq_nil (satall_cons sat_read (satall_cons sat_xnode (satall_cons sat_clean sat_nil))) Tryz.func98 rfl rfl sup ⟨fun ⟨L, G, M, C, E, a, m, c, g, f, s, n⟩ => rfl, fun ⟨L, G, M, C, E, a, m, c, g, f, s, n⟩ => ⟨rfl, rfl⟩, fun ⟨L, G, M, C, E, a, m, c, g, f, s, n⟩ ⟨L', G', M', C', E', a', m', c', g', f', z'⟩ => ⟨rfl, rfl⟩, fun ⟨L, G, M, C, E, a, m, c, g, f, s, n⟩ ⟨L', G', M', C', E', a', m', c', g', f', z'⟩ => rfl, rfl, rfl⟩ (N := 63) rfl (by kernel_rfl) (fun ⟨L, G, M, C, E, a, m, c, g, f, s, n⟩ => Nat.le_of_ble_eq_true rfl) ?_
 intro p hp
 obtain ⟨L, G, M, C, E, a, m, c, g, f, s, n⟩ := p
 obtain ⟨hX, hL, hn⟩ := hp
 have hz0 := pz_0 s
 have hz1 := pz_1 s
 have hL0 := hX.L0
 have hX0 := hX
 rw [XI_iff] at hX0
 have hmu := mu_nn hX
 repeat' (first | (with_reducible refine Pch.mk ?_; kernel_rfl) | (intro n hr h; replace h := h (by omega) (by omega); subst h) | (intro z hz; first | (replace hz := HZ.at hz (by omega) (by omega); subst hz) | (replace hz := HZ.no hz; subst hz) | (replace hz := HZ.yes hz; subst hz)) | (intro h; try (exfalso; first | contradiction | exact h True.intro)) | ((conv => whnf) <;> (first | (with_reducible refine WL.ex ?_) | (with_reducible refine WL.me ?_) | (with_reducible refine WL.mk ?_) | with_reducible refine And.intro ?_ ?_ | with_reducible exact True.intro | exact Eq.refl _)))
 all_goals (first | (first | assumption | contradiction | omega | exact pz_of | exact pz_yes | (intro hh; first | contradiction | exact True.intro | omega) | ((try dsimp only [sup] at *); first | assumption | omega) | ((conv => whnf); (try show (_ : Nat) ≤ _); (try dsimp only); omega)) | ((conv => whnf); refine' ⟨((_, _, _, _, _, _, _, _, _, _, _) : sup.δ), _, _, _, _⟩) | ((conv => whnf); refine' ⟨Nat × Nat × Nat × Nat × Nat × Int × Int × Int × Int × Int × Int × Int, fun | (L', G', M', C', E', a', m', c', g', f', z', i) => ⟨[(0, .one (.c (.loc 1001 0))), (1, .one (.c (.slice 51 n))), (2, .one (.c (.tint .u64))), (6, ci .i64 i)], [(1000, memB L'), (1001, exB L' G' M' C' E' a' m' c' g' f' (z' = 0))], L'⟩, fun | (L', G', M', C', E', a', m', c', g', f', z', i) => XI L' G' M' C' E' a' m' c' g' f' ∧ 0 ≤ z' ∧ z' ≤ 1 ∧ L ≤ L' ∧ mu G' a' f' + z' ≤ mu G a f + pz s ∧ (G' : Int) + f' ≤ G + f ∧ (L' : Int) + 256 * (mu G' a' f' + z') ≤ L + 256 * (mu G a f + pz s) + 0 ∧ -1 ≤ i ∧ i < n, fun | (L', G', M', C', E', a', m', c', g', f', z', i) => i.toNat, ⟨(_, _, _, _, _, _, _, _, _, _, _, _), _, _⟩, _⟩))
 all_goals (repeat' (first | exact True.intro | exact Eq.refl _ | exact Iff.refl _ | ((conv => whnf) <;> (first | (with_reducible refine WL.ex ?_) | (with_reducible refine WL.me ?_) | (with_reducible refine WL.mk ?_) | with_reducible refine And.intro ?_ ?_ | with_reducible refine Iff.intro ?_ ?_))))
 all_goals (first | (first | assumption | contradiction | omega | exact pz_of | exact pz_yes | (intro hh; first | contradiction | exact True.intro | omega) | ((try dsimp only [sup] at *); first | assumption | omega) | ((conv => whnf); (try show (_ : Nat) ≤ _); (try dsimp only); omega)) | (rintro ⟨L', G', M', C', E', a', m', c', g', f', z', i⟩ ⟨hx1, hx2, hx3, hx4, hx5, hx6, hx7, hx8, hx9⟩; have hxm := mu_nn hx1; (repeat' (first | (with_reducible refine Pch.mk ?_; kernel_rfl) | (intro n hr h; replace h := h (by omega) (by omega); subst h) | (intro z hz; first | (replace hz := HZ.at hz (by omega) (by omega); subst hz) | (replace hz := HZ.no hz; subst hz) | (replace hz := HZ.yes hz; subst hz)) | (intro h; try (exfalso; first | contradiction | exact h True.intro)) | ((conv => whnf) <;> (first | (with_reducible refine WL.ex ?_) | (with_reducible refine WL.me ?_) | (with_reducible refine WL.mk ?_) | with_reducible refine And.intro ?_ ?_ | with_reducible exact True.intro | exact Eq.refl _))))))
 all_goals (first | (first | assumption | contradiction | omega | exact pz_of | exact pz_yes | (intro hh; first | contradiction | exact True.intro | omega) | ((try dsimp only [sup] at *); first | assumption | omega) | ((conv => whnf); (try show (_ : Nat) ≤ _); (try dsimp only); omega)) | ((conv => whnf); first | refine' ⟨((_, _, _, _, _, _, _, _, _, _, _) : sup.δ), _, _, _, _⟩ | refine' ⟨(_, _, _, _, _, _, _, _, _, _, _, _), _, _, _⟩))
 all_goals (repeat' (first | exact True.intro | exact Eq.refl _ | exact Iff.refl _ | ((conv => whnf) <;> (first | (with_reducible refine WL.ex ?_) | (with_reducible refine WL.me ?_) | (with_reducible refine WL.mk ?_) | with_reducible refine And.intro ?_ ?_ | with_reducible refine Iff.intro ?_ ?_))))
 all_goals (first | assumption | contradiction | omega | exact pz_of | exact pz_yes | (intro hh; first | contradiction | exact True.intro | omega) | ((try dsimp only [sup] at *); first | assumption | omega) | ((conv => whnf); (try show (_ : Nat) ≤ _); (try dsimp only); omega))
def scopied : Fs where
 α := Nat × Nat × Nat × Nat × Nat × Int × Int × Int × Int × Int × Prop
 δ := Nat × Nat × Nat × Nat × Nat × Int × Int × Int × Int × Int × Int
 A := fun | (L, G, M, C, E, a, m, c, g, f, s) => [.one (.c (.loc 1001 0)), .one (.c (.tint .i64))]
 B := fun | (L, G, M, C, E, a, m, c, g, f, s) => [(1000, memB L), (1001, exB L G M C E a m c g f s)]
 L := fun | (L, G, M, C, E, a, m, c, g, f, s) => L
 get := fun avs bx L => exGet bx L
 pre := fun | (L, G, M, C, E, a, m, c, g, f, s) => XI L G M C E a m c g f ∧ L + 6 ≤ 137438950000
 rel := fun | (L, G, M, C, E, a, m, c, g, f, s), (L', G', M', C', E', a', m', c', g', f', z') => XI L' G' M' C' E' a' m' c' g' f' ∧ 0 ≤ z' ∧ z' ≤ 1 ∧ L ≤ L' ∧ mu G' a' f' + z' ≤ mu G a f + pz s ∧ (G' : Int) + f' ≤ G + f ∧ L' ≤ L + 6
 R := fun | (L, G, M, C, E, a, m, c, g, f, s), (L', G', M', C', E', a', m', c', g', f', z') => .one (.agg [.tint .i64, .tbool, .tint .u64, .str, .tint .i64, .tint .i64, .tint .i64, .tbool])
 B' := fun | (L, G, M, C, E, a, m, c, g, f, s), (L', G', M', C', E', a', m', c', g', f', z') => [(1000, memB L'), (1001, exB L' G' M' C' E' a' m' c' g' f' (z' = 0))]
 L' := fun | (L, G, M, C, E, a, m, c, g, f, s), (L', G', M', C', E', a', m', c', g', f', z') => L'
 reads := [1000, 1001]
 tc := [1000, 1001]
 st := fun p kk => match p with | (L, G, M, C, E, a, m, c, g, f, s) => opnA ([.one (.c (.loc 1001 0)), .one (.c (.tint .i64))]) fun avs0 => kk avs0 [(1000, memB L), (1001, exB L G M C E a m c g f (pz s = 0))] (L)
 st_ok := fun ⟨L, G, M, C, E, a, m, c, g, f, s⟩ _ h => opnA_imp (fun _ h => opE_st h) h
 cps := fun p kk => match p with | (L, G, M, C, E, a, m, c, g, f, s) => ∀ z : Int, HZ s z → ∀ L' : Nat, ∀ G' : Nat, ∀ M' : Nat, ∀ C' : Nat, ∀ E' : Nat, ∀ a' : Int, ∀ m' : Int, ∀ c' : Int, ∀ g' : Int, ∀ f' : Int, ∀ z' : Int, (XI L' G' M' C' E' a' m' c' g' f') → (0 ≤ z') → (z' ≤ 1) → (L ≤ L') → (mu G' a' f' + z' ≤ mu G a f + z) → ((G' : Int) + f' ≤ G + f) → (L' ≤ L + 6) → kk (.one (.agg [.tint .i64, .tbool, .tint .u64, .str, .tint .i64, .tint .i64, .tint .i64, .tbool])) ([(1000, memB L'), (1001, exB L' G' M' C' E' a' m' c' g' f' (z' = 0))]) (L')
 cur := fun ⟨L, G, M, C, E, a, m, c, g, f, s⟩ _ h ⟨L', G', M', C', E', a', m', c', g', f', z'⟩ ⟨h1, h2, h3, h4, h5, h6, h7⟩ => opE_ok (h (pz s) (pz_hz s) L' G' M' C' E' a' m' c' g' f' z' h1 h2 h3 h4 h5 h6 h7)
set_option maxHeartbeats 8000000 in
theorem sat_copied : Sat Tryz.prog tab 100 scopied.spec := by
 refine sat_of ⟨tab, [(101, sgen.spec), (85, salloc.spec), (99, scell.spec)], []⟩ (fun _ => ⟨.done, [], false, []⟩) mixed_ok tab_ok eq_nil (satall_cons sat_gen (satall_cons sat_alloc (satall_cons sat_cell sat_nil))) Tryz.func100 rfl rfl scopied ⟨fun ⟨L, G, M, C, E, a, m, c, g, f, s⟩ => rfl, fun ⟨L, G, M, C, E, a, m, c, g, f, s⟩ => ⟨rfl, rfl⟩, fun ⟨L, G, M, C, E, a, m, c, g, f, s⟩ ⟨L', G', M', C', E', a', m', c', g', f', z'⟩ => ⟨rfl, rfl⟩, fun ⟨L, G, M, C, E, a, m, c, g, f, s⟩ ⟨L', G', M', C', E', a', m', c', g', f', z'⟩ => rfl, rfl, rfl⟩ (N := 17) rfl (by kernel_rfl) (fun ⟨L, G, M, C, E, a, m, c, g, f, s⟩ => Nat.le_of_ble_eq_true rfl) ?_
 intro p hp
 obtain ⟨L, G, M, C, E, a, m, c, g, f, s⟩ := p
 obtain ⟨hX, hL⟩ := hp
 have hz0 := pz_0 s
 have hz1 := pz_1 s
 have hL0 := hX.L0
 repeat' (first | (with_reducible refine Pch.mk ?_; kernel_rfl) | (intro n hr h; replace h := h (by omega) (by omega); subst h) | (intro z hz; first | (replace hz := HZ.at hz (by omega) (by omega); subst hz) | (replace hz := HZ.no hz; subst hz) | (replace hz := HZ.yes hz; subst hz)) | (intro h; try (exfalso; first | contradiction | exact h True.intro)) | ((conv => whnf) <;> (first | (with_reducible refine WL.ex ?_) | (with_reducible refine WL.me ?_) | (with_reducible refine WL.mk ?_) | with_reducible refine And.intro ?_ ?_ | with_reducible exact True.intro | exact Eq.refl _)))
 all_goals (first | (first | assumption | contradiction | omega | exact pz_of | exact pz_yes | (intro hh; first | contradiction | exact True.intro | omega) | ((try dsimp only [scopied] at *); first | assumption | omega) | ((conv => whnf); (try show (_ : Nat) ≤ _); (try dsimp only); omega)) | ((conv => whnf); refine' ⟨((_, _, _, _, _, _, _, _, _, _, _) : scopied.δ), _, _, _, _⟩))
 all_goals (repeat' (first | exact True.intro | exact Eq.refl _ | exact Iff.refl _ | ((conv => whnf) <;> (first | (with_reducible refine WL.ex ?_) | (with_reducible refine WL.me ?_) | (with_reducible refine WL.mk ?_) | with_reducible refine And.intro ?_ ?_ | with_reducible refine Iff.intro ?_ ?_))))
 all_goals (first | assumption | contradiction | omega | exact pz_of | exact pz_yes | (intro hh; first | contradiction | exact True.intro | omega) | ((try dsimp only [scopied] at *); first | assumption | omega) | ((conv => whnf); (try show (_ : Nat) ≤ _); (try dsimp only); omega))
def ssnapshot : Fs where
 α := Nat × Nat × Nat × Nat × Nat × Int × Int × Int × Int × Int × Prop
 δ := Nat × Nat × Nat × Nat × Nat × Int × Int × Int × Int × Int × Int
 A := fun | (L, G, M, C, E, a, m, c, g, f, s) => [.one (.c (.loc 1001 0)), .one (.c .tbool)]
 B := fun | (L, G, M, C, E, a, m, c, g, f, s) => [(1000, memB L), (1001, exB L G M C E a m c g f s)]
 L := fun | (L, G, M, C, E, a, m, c, g, f, s) => L
 get := fun avs bx L => exGet bx L
 pre := fun | (L, G, M, C, E, a, m, c, g, f, s) => XI L G M C E a m c g f ∧ (L : Int) + 256 * (mu G a f + 1) + 64 ≤ 137438950000
 rel := fun | (L, G, M, C, E, a, m, c, g, f, s), (L', G', M', C', E', a', m', c', g', f', z') => XI L' G' M' C' E' a' m' c' g' f' ∧ 0 ≤ z' ∧ z' ≤ 1 ∧ L ≤ L' ∧ mu G' a' f' + z' ≤ mu G a f + pz s ∧ (G' : Int) + f' ≤ G + f ∧ (L' : Int) + 256 * (mu G' a' f' + z') ≤ L + 256 * (mu G a f + pz s) + 64
 R := fun | (L, G, M, C, E, a, m, c, g, f, s), (L', G', M', C', E', a', m', c', g', f', z') => .one (.agg [.tint .i64, .tbool, .tint .u64, .str, .tint .i64, .tint .i64, .tint .i64, .tbool])
 B' := fun | (L, G, M, C, E, a, m, c, g, f, s), (L', G', M', C', E', a', m', c', g', f', z') => [(1000, memB L'), (1001, exB L' G' M' C' E' a' m' c' g' f' (z' = 0))]
 L' := fun | (L, G, M, C, E, a, m, c, g, f, s), (L', G', M', C', E', a', m', c', g', f', z') => L'
 reads := [1000, 1001]
 tc := [1000, 1001]
 st := fun p kk => match p with | (L, G, M, C, E, a, m, c, g, f, s) => opnA ([.one (.c (.loc 1001 0)), .one (.c .tbool)]) fun avs0 => kk avs0 [(1000, memB L), (1001, exB L G M C E a m c g f (pz s = 0))] (L)
 st_ok := fun ⟨L, G, M, C, E, a, m, c, g, f, s⟩ _ h => opnA_imp (fun _ h => opE_st h) h
 cps := fun p kk => match p with | (L, G, M, C, E, a, m, c, g, f, s) => ∀ z : Int, HZ s z → ∀ L' : Nat, ∀ G' : Nat, ∀ M' : Nat, ∀ C' : Nat, ∀ E' : Nat, ∀ a' : Int, ∀ m' : Int, ∀ c' : Int, ∀ g' : Int, ∀ f' : Int, ∀ z' : Int, (XI L' G' M' C' E' a' m' c' g' f') → (0 ≤ z') → (z' ≤ 1) → (L ≤ L') → (mu G' a' f' + z' ≤ mu G a f + z) → ((G' : Int) + f' ≤ G + f) → ((L' : Int) + 256 * (mu G' a' f' + z') ≤ L + 256 * (mu G a f + z) + 64) → kk (.one (.agg [.tint .i64, .tbool, .tint .u64, .str, .tint .i64, .tint .i64, .tint .i64, .tbool])) ([(1000, memB L'), (1001, exB L' G' M' C' E' a' m' c' g' f' (z' = 0))]) (L')
 cur := fun ⟨L, G, M, C, E, a, m, c, g, f, s⟩ _ h ⟨L', G', M', C', E', a', m', c', g', f', z'⟩ ⟨h1, h2, h3, h4, h5, h6, h7⟩ => opE_ok (h (pz s) (pz_hz s) L' G' M' C' E' a' m' c' g' f' z' h1 h2 h3 h4 h5 h6 h7)
set_option maxHeartbeats 8000000 in
theorem sat_snapshot : Sat Tryz.prog tab 75 ssnapshot.spec := by
 refine sat_of ⟨tab, [(80, sload.spec), (99, scell.spec), (66, sread.spec), (100, scopied.spec), (68, shelp.spec), (101, sgen.spec), (85, salloc.spec), (69, srdcss.spec)], []⟩ (fun id => match assoc [(11, ⟨.take 0 (.take 2 (.take 3 (.take 4 (.take 5 (.take 6 (.take 7 (.take 1 (.step 8 (.step 9 (.take 10 (.done))))))))))), [5], false, []⟩)] id with | some p => p | none => ⟨.done, [], false, []⟩) mixed_ok tab_ok eq_nil (satall_cons sat_load (satall_cons sat_cell (satall_cons sat_read (satall_cons sat_copied (satall_cons sat_help (satall_cons sat_gen (satall_cons sat_alloc (satall_cons sat_rdcss sat_nil)))))))) Tryz.func75 rfl rfl ssnapshot ⟨fun ⟨L, G, M, C, E, a, m, c, g, f, s⟩ => rfl, fun ⟨L, G, M, C, E, a, m, c, g, f, s⟩ => ⟨rfl, rfl⟩, fun ⟨L, G, M, C, E, a, m, c, g, f, s⟩ ⟨L', G', M', C', E', a', m', c', g', f', z'⟩ => ⟨rfl, rfl⟩, fun ⟨L, G, M, C, E, a, m, c, g, f, s⟩ ⟨L', G', M', C', E', a', m', c', g', f', z'⟩ => rfl, rfl, rfl⟩ (N := 68) rfl (by kernel_rfl) (fun ⟨L, G, M, C, E, a, m, c, g, f, s⟩ => Nat.le_of_ble_eq_true rfl) ?_
 intro p hp
 obtain ⟨L, G, M, C, E, a, m, c, g, f, s⟩ := p
 obtain ⟨hX, hL⟩ := hp
 have hz0 := pz_0 s
 have hz1 := pz_1 s
 have hL0 := hX.L0
 have hX0 := hX
 rw [XI_iff] at hX0
 have hmu := mu_nn hX
 repeat' (first | (with_reducible refine Pch.mk ?_; kernel_rfl) | (intro n hr h; replace h := h (by omega) (by omega); subst h) | (intro z hz; first | (replace hz := HZ.at hz (by omega) (by omega); subst hz) | (replace hz := HZ.no hz; subst hz) | (replace hz := HZ.yes hz; subst hz)) | (intro h; try (exfalso; first | contradiction | exact h True.intro)) | ((conv => whnf) <;> (first | (with_reducible refine WL.ex ?_) | (with_reducible refine WL.me ?_) | (with_reducible refine WL.mk ?_) | with_reducible refine And.intro ?_ ?_ | with_reducible exact True.intro | exact Eq.refl _)))
 all_goals (first | (first | assumption | contradiction | omega | exact pz_of | exact pz_yes | (intro hh; first | contradiction | exact True.intro | omega) | ((try dsimp only [ssnapshot] at *); first | assumption | omega) | ((conv => whnf); (try show (_ : Nat) ≤ _); (try dsimp only); omega)) | ((conv => whnf); refine' ⟨((_, _, _, _, _, _, _, _, _, _, _) : ssnapshot.δ), _, _, _, _⟩) | ((conv => whnf); refine' ⟨Nat × Nat × Nat × Nat × Nat × Int × Int × Int × Int × Int × Int, fun | (L', G', M', C', E', a', m', c', g', f', z') => ⟨[(0, .one (.c (.loc 1001 0))), (1, .one (.c .tbool)), (4, .one (.c (.loc 4 0))), (5, .one (.c (.loc 5 0)))], [(1000, memB L'), (1001, exB L' G' M' C' E' a' m' c' g' f' (z' = 0)), (4, [.tint .i64, .tbool, .tint .u64, .str, .tint .i64, .tint .i64, .tint .i64, .tbool]), (5, [.tint .i64, .tbool])], L'⟩, fun | (L', G', M', C', E', a', m', c', g', f', z') => XI L' G' M' C' E' a' m' c' g' f' ∧ 0 ≤ z' ∧ z' ≤ 1 ∧ L ≤ L' ∧ mu G' a' f' + z' ≤ mu G a f + pz s ∧ (G' : Int) + f' ≤ G + f ∧ (L' : Int) + 256 * (mu G' a' f' + z') ≤ L + 256 * (mu G a f + pz s) + 64, fun | (L', G', M', C', E', a', m', c', g', f', z') => (mu G' a' f' + z').toNat, ⟨(_, _, _, _, _, _, _, _, _, _, _), _, _⟩, _⟩))
 all_goals (repeat' (first | exact True.intro | exact Eq.refl _ | exact Iff.refl _ | ((conv => whnf) <;> (first | (with_reducible refine WL.ex ?_) | (with_reducible refine WL.me ?_) | (with_reducible refine WL.mk ?_) | with_reducible refine And.intro ?_ ?_ | with_reducible refine Iff.intro ?_ ?_))))
 all_goals (first | (first | assumption | contradiction | omega | exact pz_of | exact pz_yes | (intro hh; first | contradiction | exact True.intro | omega) | ((try dsimp only [ssnapshot] at *); first | assumption | omega) | ((conv => whnf); (try show (_ : Nat) ≤ _); (try dsimp only); omega)) | (rintro ⟨L', G', M', C', E', a', m', c', g', f', z'⟩ ⟨hx1, hx2, hx3, hx4, hx5, hx6, hx7⟩; have hxm := mu_nn hx1; (repeat' (first | (with_reducible refine Pch.mk ?_; kernel_rfl) | (intro n hr h; replace h := h (by omega) (by omega); subst h) | (intro z hz; first | (replace hz := HZ.at hz (by omega) (by omega); subst hz) | (replace hz := HZ.no hz; subst hz) | (replace hz := HZ.yes hz; subst hz)) | (intro h; try (exfalso; first | contradiction | exact h True.intro)) | ((conv => whnf) <;> (first | (with_reducible refine WL.ex ?_) | (with_reducible refine WL.me ?_) | (with_reducible refine WL.mk ?_) | with_reducible refine And.intro ?_ ?_ | with_reducible exact True.intro | exact Eq.refl _))))))
 all_goals (first | (first | assumption | contradiction | omega | exact pz_of | exact pz_yes | (intro hh; first | contradiction | exact True.intro | omega) | ((try dsimp only [ssnapshot] at *); first | assumption | omega) | ((conv => whnf); (try show (_ : Nat) ≤ _); (try dsimp only); omega)) | ((conv => whnf); first | refine' ⟨((_, _, _, _, _, _, _, _, _, _, _) : ssnapshot.δ), _, _, _, _⟩ | refine' ⟨(_, _, _, _, _, _, _, _, _, _, _), _, _, _⟩))
 all_goals (repeat' (first | exact True.intro | exact Eq.refl _ | exact Iff.refl _ | ((conv => whnf) <;> (first | (with_reducible refine WL.ex ?_) | (with_reducible refine WL.me ?_) | (with_reducible refine WL.mk ?_) | with_reducible refine And.intro ?_ ?_ | with_reducible refine Iff.intro ?_ ?_))))
 all_goals (first | assumption | contradiction | omega | exact pz_of | exact pz_yes | (intro hh; first | contradiction | exact True.intro | omega) | ((try dsimp only [ssnapshot] at *); first | assumption | omega) | ((conv => whnf); (try show (_ : Nat) ≤ _); (try dsimp only); omega))
def sclear : Fs where
 α := Nat × Nat × Nat × Nat × Nat × Int × Int × Int × Int × Int × Prop
 δ := Nat × Nat × Nat × Nat × Nat × Int × Int × Int × Int × Int × Int
 A := fun | (L, G, M, C, E, a, m, c, g, f, s) => [.one (.c (.loc 1001 0))]
 B := fun | (L, G, M, C, E, a, m, c, g, f, s) => [(1000, memB L), (1001, exB L G M C E a m c g f s)]
 L := fun | (L, G, M, C, E, a, m, c, g, f, s) => L
 get := fun avs bx L => exGet bx L
 pre := fun | (L, G, M, C, E, a, m, c, g, f, s) => XI L G M C E a m c g f ∧ (L : Int) + 256 * (mu G a f + 1) + 0 ≤ 137438950000
 rel := fun | (L, G, M, C, E, a, m, c, g, f, s), (L', G', M', C', E', a', m', c', g', f', z') => XI L' G' M' C' E' a' m' c' g' f' ∧ 0 ≤ z' ∧ z' ≤ 1 ∧ L ≤ L' ∧ mu G' a' f' + z' ≤ mu G a f + pz s ∧ (G' : Int) + f' ≤ G + f ∧ (L' : Int) + 256 * (mu G' a' f' + z') ≤ L + 256 * (mu G a f + pz s) + 0
 R := fun | (L, G, M, C, E, a, m, c, g, f, s), (L', G', M', C', E', a', m', c', g', f', z') => .one (.agg [.tint .i64, .tbool, .tint .u64, .str, .tint .i64, .tint .i64, .tint .i64, .tbool])
 B' := fun | (L, G, M, C, E, a, m, c, g, f, s), (L', G', M', C', E', a', m', c', g', f', z') => [(1000, memB L'), (1001, exB L' G' M' C' E' a' m' c' g' f' (z' = 0))]
 L' := fun | (L, G, M, C, E, a, m, c, g, f, s), (L', G', M', C', E', a', m', c', g', f', z') => L'
 reads := [1000, 1001]
 tc := [1000, 1001]
 st := fun p kk => match p with | (L, G, M, C, E, a, m, c, g, f, s) => opnA ([.one (.c (.loc 1001 0))]) fun avs0 => kk avs0 [(1000, memB L), (1001, exB L G M C E a m c g f (pz s = 0))] (L)
 st_ok := fun ⟨L, G, M, C, E, a, m, c, g, f, s⟩ _ h => opnA_imp (fun _ h => opE_st h) h
 cps := fun p kk => match p with | (L, G, M, C, E, a, m, c, g, f, s) => ∀ z : Int, HZ s z → ∀ L' : Nat, ∀ G' : Nat, ∀ M' : Nat, ∀ C' : Nat, ∀ E' : Nat, ∀ a' : Int, ∀ m' : Int, ∀ c' : Int, ∀ g' : Int, ∀ f' : Int, ∀ z' : Int, (XI L' G' M' C' E' a' m' c' g' f') → (0 ≤ z') → (z' ≤ 1) → (L ≤ L') → (mu G' a' f' + z' ≤ mu G a f + z) → ((G' : Int) + f' ≤ G + f) → ((L' : Int) + 256 * (mu G' a' f' + z') ≤ L + 256 * (mu G a f + z) + 0) → kk (.one (.agg [.tint .i64, .tbool, .tint .u64, .str, .tint .i64, .tint .i64, .tint .i64, .tbool])) ([(1000, memB L'), (1001, exB L' G' M' C' E' a' m' c' g' f' (z' = 0))]) (L')
 cur := fun ⟨L, G, M, C, E, a, m, c, g, f, s⟩ _ h ⟨L', G', M', C', E', a', m', c', g', f', z'⟩ ⟨h1, h2, h3, h4, h5, h6, h7⟩ => opE_ok (h (pz s) (pz_hz s) L' G' M' C' E' a' m' c' g' f' z' h1 h2 h3 h4 h5 h6 h7)
set_option maxHeartbeats 8000000 in
theorem sat_clear : Sat Tryz.prog tab 76 sclear.spec := by
 refine sat_of ⟨tab, [(68, shelp.spec), (66, sread.spec), (85, salloc.spec), (101, sgen.spec), (69, srdcss.spec)], []⟩ (fun id => match assoc [(7, ⟨.take 0 (.take 2 (.take 3 (.take 4 (.take 5 (.take 6 (.take 7 (.take 1 (.step 8 (.step 9 (.done)))))))))), [3], false, []⟩)] id with | some p => p | none => ⟨.done, [], false, []⟩) mixed_ok tab_ok eq_nil (satall_cons sat_help (satall_cons sat_read (satall_cons sat_alloc (satall_cons sat_gen (satall_cons sat_rdcss sat_nil))))) Tryz.func76 rfl rfl sclear ⟨fun ⟨L, G, M, C, E, a, m, c, g, f, s⟩ => rfl, fun ⟨L, G, M, C, E, a, m, c, g, f, s⟩ => ⟨rfl, rfl⟩, fun ⟨L, G, M, C, E, a, m, c, g, f, s⟩ ⟨L', G', M', C', E', a', m', c', g', f', z'⟩ => ⟨rfl, rfl⟩, fun ⟨L, G, M, C, E, a, m, c, g, f, s⟩ ⟨L', G', M', C', E', a', m', c', g', f', z'⟩ => rfl, rfl, rfl⟩ (N := 42) rfl (by kernel_rfl) (fun ⟨L, G, M, C, E, a, m, c, g, f, s⟩ => Nat.le_of_ble_eq_true rfl) ?_
 intro p hp
 obtain ⟨L, G, M, C, E, a, m, c, g, f, s⟩ := p
 obtain ⟨hX, hL⟩ := hp
 have hz0 := pz_0 s
 have hz1 := pz_1 s
 have hL0 := hX.L0
 have hX0 := hX
 rw [XI_iff] at hX0
 have hmu := mu_nn hX
 repeat' (first | (with_reducible refine Pch.mk ?_; kernel_rfl) | (intro n hr h; replace h := h (by omega) (by omega); subst h) | (intro z hz; first | (replace hz := HZ.at hz (by omega) (by omega); subst hz) | (replace hz := HZ.no hz; subst hz) | (replace hz := HZ.yes hz; subst hz)) | (intro h; try (exfalso; first | contradiction | exact h True.intro)) | ((conv => whnf) <;> (first | (with_reducible refine WL.ex ?_) | (with_reducible refine WL.me ?_) | (with_reducible refine WL.mk ?_) | with_reducible refine And.intro ?_ ?_ | with_reducible exact True.intro | exact Eq.refl _)))
 all_goals (first | (first | assumption | contradiction | omega | exact pz_of | exact pz_yes | (intro hh; first | contradiction | exact True.intro | omega) | ((try dsimp only [sclear] at *); first | assumption | omega) | ((conv => whnf); (try show (_ : Nat) ≤ _); (try dsimp only); omega)) | ((conv => whnf); refine' ⟨((_, _, _, _, _, _, _, _, _, _, _) : sclear.δ), _, _, _, _⟩) | ((conv => whnf); refine' ⟨Nat × Nat × Nat × Nat × Nat × Int × Int × Int × Int × Int × Int, fun | (L', G', M', C', E', a', m', c', g', f', z') => ⟨[(0, .one (.c (.loc 1001 0))), (2, .one (.c (.loc 2 0))), (3, .one (.c (.loc 3 0)))], [(1000, memB L'), (1001, exB L' G' M' C' E' a' m' c' g' f' (z' = 0)), (2, [.tint .i64, .tbool, .tint .u64, .str, .tint .i64, .tint .i64, .tint .i64, .tbool]), (3, [.tint .i64, .tbool])], L'⟩, fun | (L', G', M', C', E', a', m', c', g', f', z') => XI L' G' M' C' E' a' m' c' g' f' ∧ 0 ≤ z' ∧ z' ≤ 1 ∧ L ≤ L' ∧ mu G' a' f' + z' ≤ mu G a f + pz s ∧ (G' : Int) + f' ≤ G + f ∧ (L' : Int) + 256 * (mu G' a' f' + z') ≤ L + 256 * (mu G a f + pz s) + 0, fun | (L', G', M', C', E', a', m', c', g', f', z') => (mu G' a' f' + z').toNat, ⟨(_, _, _, _, _, _, _, _, _, _, _), _, _⟩, _⟩))
 all_goals (repeat' (first | exact True.intro | exact Eq.refl _ | exact Iff.refl _ | ((conv => whnf) <;> (first | (with_reducible refine WL.ex ?_) | (with_reducible refine WL.me ?_) | (with_reducible refine WL.mk ?_) | with_reducible refine And.intro ?_ ?_ | with_reducible refine Iff.intro ?_ ?_))))
 all_goals (first | (first | assumption | contradiction | omega | exact pz_of | exact pz_yes | (intro hh; first | contradiction | exact True.intro | omega) | ((try dsimp only [sclear] at *); first | assumption | omega) | ((conv => whnf); (try show (_ : Nat) ≤ _); (try dsimp only); omega)) | (rintro ⟨L', G', M', C', E', a', m', c', g', f', z'⟩ ⟨hx1, hx2, hx3, hx4, hx5, hx6, hx7⟩; have hxm := mu_nn hx1; (repeat' (first | (with_reducible refine Pch.mk ?_; kernel_rfl) | (intro n hr h; replace h := h (by omega) (by omega); subst h) | (intro z hz; first | (replace hz := HZ.at hz (by omega) (by omega); subst hz) | (replace hz := HZ.no hz; subst hz) | (replace hz := HZ.yes hz; subst hz)) | (intro h; try (exfalso; first | contradiction | exact h True.intro)) | ((conv => whnf) <;> (first | (with_reducible refine WL.ex ?_) | (with_reducible refine WL.me ?_) | (with_reducible refine WL.mk ?_) | with_reducible refine And.intro ?_ ?_ | with_reducible exact True.intro | exact Eq.refl _))))))
 all_goals (first | (first | assumption | contradiction | omega | exact pz_of | exact pz_yes | (intro hh; first | contradiction | exact True.intro | omega) | ((try dsimp only [sclear] at *); first | assumption | omega) | ((conv => whnf); (try show (_ : Nat) ≤ _); (try dsimp only); omega)) | ((conv => whnf); first | refine' ⟨((_, _, _, _, _, _, _, _, _, _, _) : sclear.δ), _, _, _, _⟩ | refine' ⟨(_, _, _, _, _, _, _, _, _, _, _), _, _, _⟩))
 all_goals (repeat' (first | exact True.intro | exact Eq.refl _ | exact Iff.refl _ | ((conv => whnf) <;> (first | (with_reducible refine WL.ex ?_) | (with_reducible refine WL.me ?_) | (with_reducible refine WL.mk ?_) | with_reducible refine And.intro ?_ ?_ | with_reducible refine Iff.intro ?_ ?_))))
 all_goals (first | assumption | contradiction | omega | exact pz_of | exact pz_yes | (intro hh; first | contradiction | exact True.intro | omega) | ((try dsimp only [sclear] at *); first | assumption | omega) | ((conv => whnf); (try show (_ : Nat) ≤ _); (try dsimp only); omega))
end Tv
end Go.Proofs.YtpabdmcbahmjnaaGreat
