/- The steps of an operation: the accesses, what is made. -/
import Derived.Test.YtpabdmcbahmjnaaGreatMUC
namespace Go.Proofs.YtpabdmcbahmjnaaGreat
namespace Tv
open Go Go.RowKit
set_option linter.unusedSimpArgs false
set_option linter.unusedVariables false
noncomputable def pz (s : Prop) : Int := @ite Int s (Classical.propDecidable _) 0 1
theorem pz_yes {s : Prop} (h : s) : pz s = 0 := by unfold pz; rw [if_pos h]
theorem pz_no {s : Prop} (h : ¬ s) : pz s = 1 := by unfold pz; rw [if_neg h]
theorem pz_eq (s : Prop) : (pz s = 0) = s := by
 by_cases h : s
 ·rw [pz_yes h]; simp [h]
 ·rw [pz_no h]; simp [h]
theorem pz_of {s : Prop} (h : pz s = 0) : s := by rw [pz_eq] at h; exact h
theorem pz_0 (s : Prop) : 0 ≤ pz s := by
 by_cases h : s
 ·rw [pz_yes h]; omega
 ·rw [pz_no h]; omega
theorem pz_1 (s : Prop) : pz s ≤ 1 := by
 by_cases h : s
 ·rw [pz_yes h]; omega
 ·rw [pz_no h]; omega
def HZ (s : Prop) (z : Int) : Prop := z = pz s
theorem pz_hz (s : Prop) : HZ s (pz s) := rfl
theorem HZ.at {z z0 : Int} (h : HZ (z0 = 0) z) (h0 : 0 ≤ z0) (h1 : z0 ≤ 1) : z = z0 := by
 unfold HZ at h
 by_cases hz : z0 = 0
 ·rw [h, pz_yes hz, hz]
 ·rw [h, pz_no hz]; omega
theorem HZ.no {z : Int} (h : HZ False z) : z = 1 := by unfold HZ at h; rw [h, pz_no id]
theorem HZ.yes {z : Int} (h : HZ True z) : z = 0 := by unfold HZ at h; rw [h, pz_yes True.intro]
structure XI (L G M C E : Nat) (a m c g f : Int) : Prop where
 a0 : 0 ≤ a
 a1 : a ≤ G
 m0 : 0 ≤ m
 m1 : m ≤ M
 c0 : 0 ≤ c
 c1 : c ≤ C
 g0 : 0 ≤ g
 g1 : g ≤ E
 f0 : 0 ≤ f
 f1 : f ≤ 1000000
 G1 : G ≤ L
 M1 : M ≤ L
 C1 : C ≤ L
 E1 : E ≤ L
 L0 : 64 ≤ L
theorem XI_iff {L G M C E : Nat} {a m c g f : Int} : XI L G M C E a m c g f ↔ (0 ≤ a ∧ a ≤ G ∧ 0 ≤ m ∧ m ≤ M ∧ 0 ≤ c ∧ c ≤ C ∧ 0 ≤ g ∧ g ≤ E ∧ 0 ≤ f ∧ f ≤ 1000000 ∧ G ≤ L ∧ M ≤ L ∧ C ≤ L ∧ E ≤ L ∧ 64 ≤ L) :=
 ⟨fun ⟨h1, h2, h3, h4, h5, h6, h7, h8, h9, h10, h11, h12, h13, h14, h15⟩ => ⟨h1, h2, h3, h4, h5, h6, h7, h8, h9, h10, h11, h12, h13, h14, h15⟩,
  fun ⟨h1, h2, h3, h4, h5, h6, h7, h8, h9, h10, h11, h12, h13, h14, h15⟩ => ⟨h1, h2, h3, h4, h5, h6, h7, h8, h9, h10, h11, h12, h13, h14, h15⟩⟩
def mu (G : Nat) (a f : Int) : Int := G - a + f
def exB (L G M C E : Nat) (a m c g f : Int) (s : Prop) : List CV := .loc 1000 0 :: .tint .i64 :: .tint .i64 :: .tbool :: .tint .i64 :: .tint .i64 :: .tint .i64 :: .tint .i64 :: .tint .u64 :: .tint .u64 :: .str :: .tint .u64 :: .tint .u64 :: .tint .i64 :: .tbool :: .tbool :: .sl 168 L :: .sl 139 L :: .tint .i64 :: .tbool :: .tint .u64 :: .str :: .tint .i64 :: .tint .i64 :: .tint .i64 :: .tbool :: .slice 51 G :: .slice 51 M :: .slice 52 C :: .slice 3 E :: .int .i64 a :: .int .i64 m :: .int .i64 c :: .int .i64 g :: .int .i64 f :: .prop s :: .tint .i64 :: .tint .i64 :: .tint .i64 :: .tint .i64 :: .tbool :: .tint .i64 :: .tbool :: .tint .u64 :: .str :: .tint .i64 :: .tint .i64 :: .tint .i64 :: .tbool :: .tbool :: .sl 168 L :: .sl 139 L :: []
theorem WL.ex {L L' G M C E : Nat} {a m c g f : Int} {s : Prop} (h : L ≤ L') : WL (exB L G M C E a m c g f s) (exB L' G M C E a m c g f s) := by
 refine ⟨?_⟩
 unfold exB
 repeat' (first | exact True.intro | exact Eq.refl _ | exact Iff.refl _ | exact h | ((conv => whnf) <;> with_reducible refine And.intro ?_ ?_))
theorem WL.me {L L' : Nat} (h : L ≤ L') : WL (memB L) (memB L') := by
 refine ⟨?_⟩
 unfold memB
 repeat' (first | exact True.intro | exact Eq.refl _ | exact Iff.refl _ | exact h | ((conv => whnf) <;> with_reducible refine And.intro ?_ ?_))
theorem opE_ok {A : List (Nat × List CV)} {K : List (Nat × List CV) → Prop} (h : K A) : OB A K := Or.inr h
theorem opE_st {L G M C E : Nat} {a m c g f : Int} {s : Prop} {K : List (Nat × List CV) → Prop} (h : K [(1000, memB L), (1001, exB L G M C E a m c g f (pz s = 0))]) : OB [(1000, memB L), (1001, exB L G M C E a m c g f s)] K := by
 rw [pz_eq] at h
 exact Or.inr h
def intOfC : Option CV → Option Int
 | some (.int _ n) => some n
 | _ => none
def propOfC : Option CV → Option Prop
 | some (.prop p) => some p
 | _ => none
def exGet (bx : Bx) (L : Nat) : Option (Nat × Nat × Nat × Nat × Nat × Int × Int × Int × Int × Int × Prop) :=
 match bx 1001 with
 | some cs => match slLen (nth cs 26), slLen (nth cs 27), slLen (nth cs 28), slLen (nth cs 29), intOfC (nth cs 30), intOfC (nth cs 31), intOfC (nth cs 32), intOfC (nth cs 33), intOfC (nth cs 34), propOfC (nth cs 35) with
  | some G, some M, some C, some E, some a, some m, some c, some g, some f, some s => some (L, G, M, C, E, a, m, c, g, f, s)
  | _, _, _, _, _, _, _, _, _, _ => none
 | none => none
def sknown : Fs where
 α := Nat × Nat × Nat × Nat × Nat × Int × Int × Int × Int × Int × Prop
 δ := Nat × Nat × Nat × Nat × Nat × Int × Int × Int × Int × Int × Int × Int × Int
 A := fun | (L, G, M, C, E, a, m, c, g, f, s) => [.one (.c (.loc 1001 0)), .one (.agg [.tint .i64, .tint .i64, .tint .i64, .tint .i64])]
 B := fun | (L, G, M, C, E, a, m, c, g, f, s) => [(1000, memB L), (1001, exB L G M C E a m c g f s)]
 L := fun | (L, G, M, C, E, a, m, c, g, f, s) => L
 get := fun avs bx L => exGet bx L
 pre := fun | (L, G, M, C, E, a, m, c, g, f, s) => XI L G M C E a m c g f ∧ L + 0 ≤ 137438950000
 rel := fun | (L, G, M, C, E, a, m, c, g, f, s), (L', G', M', C', E', a', m', c', g', f', z', o, w) => XI L' G' M' C' E' a' m' c' g' f' ∧ 0 ≤ z' ∧ z' ≤ 1 ∧ L' = L ∧ (G' = G ∧ M' = M ∧ C' = C ∧ E' = E ∧ m' = m ∧ c' = c ∧ g' = g) ∧ ((pz s = 0 ∧ o = 0 ∧ w = 0 ∧ z' = 0 ∧ a' = a ∧ f' = f) ∨ (pz s = 1 ∧ a < G ∧ o = 1 ∧ w = 0 ∧ z' = 1 ∧ a' = a + 1 ∧ f' = f) ∨ (pz s = 1 ∧ a = G ∧ f = 0 ∧ o = 0 ∧ w = 0 ∧ z' = 0 ∧ a' = a ∧ f' = f) ∨ (pz s = 1 ∧ a = G ∧ 1 ≤ f ∧ o = 0 ∧ w = 1 ∧ z' = 1 ∧ a' = a ∧ f' = f - 1))
 R := fun | (L, G, M, C, E, a, m, c, g, f, s), (L', G', M', C', E', a', m', c', g', f', z', o, w) => .tup [.c (.prop (o = 1)), .c (.prop (w = 1))]
 B' := fun | (L, G, M, C, E, a, m, c, g, f, s), (L', G', M', C', E', a', m', c', g', f', z', o, w) => [(1000, memB L'), (1001, exB L' G' M' C' E' a' m' c' g' f' (z' = 0))]
 L' := fun | (L, G, M, C, E, a, m, c, g, f, s), (L', G', M', C', E', a', m', c', g', f', z', o, w) => L'
 reads := [1000, 1001]
 tc := [1000, 1001]
 st := fun p kk => match p with | (L, G, M, C, E, a, m, c, g, f, s) => opnA ([.one (.c (.loc 1001 0)), .one (.agg [.tint .i64, .tint .i64, .tint .i64, .tint .i64])]) fun avs0 => kk avs0 [(1000, memB L), (1001, exB L G M C E a m c g f (pz s = 0))] (L)
 st_ok := fun ⟨L, G, M, C, E, a, m, c, g, f, s⟩ _ h => opnA_imp (fun _ h => opE_st h) h
 cps := fun p kk => match p with | (L, G, M, C, E, a, m, c, g, f, s) => ∀ z : Int, HZ s z → ∀ L' : Nat, ∀ G' : Nat, ∀ M' : Nat, ∀ C' : Nat, ∀ E' : Nat, ∀ a' : Int, ∀ m' : Int, ∀ c' : Int, ∀ g' : Int, ∀ f' : Int, ∀ z' : Int, ∀ o : Int, ∀ w : Int, (XI L' G' M' C' E' a' m' c' g' f') → (0 ≤ z') → (z' ≤ 1) → (L' = L) → ((G' = G ∧ M' = M ∧ C' = C ∧ E' = E ∧ m' = m ∧ c' = c ∧ g' = g)) → (((z = 0 ∧ o = 0 ∧ w = 0 ∧ z' = 0 ∧ a' = a ∧ f' = f) ∨ (z = 1 ∧ a < G ∧ o = 1 ∧ w = 0 ∧ z' = 1 ∧ a' = a + 1 ∧ f' = f) ∨ (z = 1 ∧ a = G ∧ f = 0 ∧ o = 0 ∧ w = 0 ∧ z' = 0 ∧ a' = a ∧ f' = f) ∨ (z = 1 ∧ a = G ∧ 1 ≤ f ∧ o = 0 ∧ w = 1 ∧ z' = 1 ∧ a' = a ∧ f' = f - 1))) → kk (.tup [.c (.prop (o = 1)), .c (.prop (w = 1))]) ([(1000, memB L'), (1001, exB L' G' M' C' E' a' m' c' g' f' (z' = 0))]) (L')
 cur := fun ⟨L, G, M, C, E, a, m, c, g, f, s⟩ _ h ⟨L', G', M', C', E', a', m', c', g', f', z', o, w⟩ ⟨h1, h2, h3, h4, h5, h6⟩ => opE_ok (h (pz s) (pz_hz s) L' G' M' C' E' a' m' c' g' f' z' o w h1 h2 h3 h4 h5 h6)
set_option maxHeartbeats 8000000 in
theorem sat_known : Sat Tryz.prog tab 106 sknown.spec := by
 refine sat_of ⟨tab, [], []⟩ (fun id => match assoc [(3, ⟨.take 0 (.take 1 (.take 2 (.take 4 (.take 5 (.take 6 (.take 3 (.take 7 (.take 8 (.take 9 (.done)))))))))), [1001], false, []⟩), (7, ⟨.take 0 (.take 1 (.take 3 (.take 4 (.take 2 (.step 5 (.take 6 (.take 7 (.step 8 (.done))))))))), [3], false, []⟩)] id with | some p => p | none => ⟨.done, [], false, []⟩) mixed_ok tab_ok eq_nil sat_nil Tryz.func106 rfl rfl sknown ⟨fun ⟨L, G, M, C, E, a, m, c, g, f, s⟩ => rfl, fun ⟨L, G, M, C, E, a, m, c, g, f, s⟩ => ⟨rfl, rfl⟩, fun ⟨L, G, M, C, E, a, m, c, g, f, s⟩ ⟨L', G', M', C', E', a', m', c', g', f', z', o, w⟩ => ⟨rfl, rfl⟩, fun ⟨L, G, M, C, E, a, m, c, g, f, s⟩ ⟨L', G', M', C', E', a', m', c', g', f', z', o, w⟩ => rfl, rfl, rfl⟩ (N := 46) rfl (by kernel_rfl) (fun ⟨L, G, M, C, E, a, m, c, g, f, s⟩ => Nat.le_of_ble_eq_true rfl) ?_
 intro p hp
 obtain ⟨L, G, M, C, E, a, m, c, g, f, s⟩ := p
 obtain ⟨hX, hL⟩ := hp
 have hz0 := pz_0 s
 have hz1 := pz_1 s
 rw [XI_iff] at hX
 repeat' (first | (with_reducible refine Pch.mk ?_; kernel_rfl) | (intro n hr h; replace h := h (by omega) (by omega); subst h) | (intro z hz; first | (replace hz := HZ.at hz (by omega) (by omega); subst hz) | (replace hz := HZ.no hz; subst hz) | (replace hz := HZ.yes hz; subst hz)) | (intro h; try (exfalso; first | contradiction | exact h True.intro)) | ((conv => whnf) <;> (first | (with_reducible refine WL.ex ?_) | (with_reducible refine WL.me ?_) | (with_reducible refine WL.mk ?_) | with_reducible refine And.intro ?_ ?_ | with_reducible exact True.intro | exact Eq.refl _)))
 ·(conv => whnf); refine' ⟨((_, _, _, _, _, _, _, _, _, _, pz s, 0, 0) : sknown.δ), _, _, _, _⟩
  all_goals (repeat' (first | exact True.intro | exact Eq.refl _ | exact Iff.refl _ | ((conv => whnf) <;> (first | (with_reducible refine WL.ex ?_) | (with_reducible refine WL.me ?_) | (with_reducible refine WL.mk ?_) | with_reducible refine And.intro ?_ ?_ | with_reducible refine Iff.intro ?_ ?_))))
  all_goals (first | assumption | contradiction | omega | exact pz_of | exact pz_yes | (intro hh; first | contradiction | exact True.intro | omega) | ((try dsimp only [sknown] at *); first | assumption | omega) | ((conv => whnf); (try show (_ : Nat) ≤ _); (try dsimp only); omega) | ((try dsimp only [sknown] at *); simp only [XI_iff, mu] at *; omega))
 ·(conv => whnf); refine' ⟨((_, _, _, _, _, _, _, _, _, _, pz s, 1, 0) : sknown.δ), _, _, _, _⟩
  all_goals (repeat' (first | exact True.intro | exact Eq.refl _ | exact Iff.refl _ | ((conv => whnf) <;> (first | (with_reducible refine WL.ex ?_) | (with_reducible refine WL.me ?_) | (with_reducible refine WL.mk ?_) | with_reducible refine And.intro ?_ ?_ | with_reducible refine Iff.intro ?_ ?_))))
  all_goals (first | assumption | contradiction | omega | exact pz_of | exact pz_yes | (intro hh; first | contradiction | exact True.intro | omega) | ((try dsimp only [sknown] at *); first | assumption | omega) | ((conv => whnf); (try show (_ : Nat) ≤ _); (try dsimp only); omega) | ((try dsimp only [sknown] at *); simp only [XI_iff, mu] at *; omega))
 ·(conv => whnf); refine' ⟨((_, _, _, _, _, _, _, _, _, _, 0, 0, 0) : sknown.δ), _, _, _, _⟩
  all_goals (repeat' (first | exact True.intro | exact Eq.refl _ | exact Iff.refl _ | ((conv => whnf) <;> (first | (with_reducible refine WL.ex ?_) | (with_reducible refine WL.me ?_) | (with_reducible refine WL.mk ?_) | with_reducible refine And.intro ?_ ?_ | with_reducible refine Iff.intro ?_ ?_))))
  all_goals (first | assumption | contradiction | omega | exact pz_of | exact pz_yes | (intro hh; first | contradiction | exact True.intro | omega) | ((try dsimp only [sknown] at *); first | assumption | omega) | ((conv => whnf); (try show (_ : Nat) ≤ _); (try dsimp only); omega) | ((try dsimp only [sknown] at *); simp only [XI_iff, mu] at *; omega))
 ·(conv => whnf); refine' ⟨((_, _, _, _, _, _, _, _, _, _, pz s, 0, 1) : sknown.δ), _, _, _, _⟩
  all_goals (repeat' (first | exact True.intro | exact Eq.refl _ | exact Iff.refl _ | ((conv => whnf) <;> (first | (with_reducible refine WL.ex ?_) | (with_reducible refine WL.me ?_) | (with_reducible refine WL.mk ?_) | with_reducible refine And.intro ?_ ?_ | with_reducible refine Iff.intro ?_ ?_))))
  all_goals (first | assumption | contradiction | omega | exact pz_of | exact pz_yes | (intro hh; first | contradiction | exact True.intro | omega) | ((try dsimp only [sknown] at *); first | assumption | omega) | ((conv => whnf); (try show (_ : Nat) ≤ _); (try dsimp only); omega) | ((try dsimp only [sknown] at *); simp only [XI_iff, mu] at *; omega))
def sload : Fs where
 α := Nat × Nat × Nat × Nat × Nat × Int × Int × Int × Int × Int × Prop
 δ := Nat × Nat × Nat × Nat × Nat × Int × Int × Int × Int × Int × Int
 A := fun | (L, G, M, C, E, a, m, c, g, f, s) => [.one (.c (.loc 1001 0)), .one (.c (.tint .i64))]
 B := fun | (L, G, M, C, E, a, m, c, g, f, s) => [(1000, memB L), (1001, exB L G M C E a m c g f s)]
 L := fun | (L, G, M, C, E, a, m, c, g, f, s) => L
 get := fun avs bx L => exGet bx L
 pre := fun | (L, G, M, C, E, a, m, c, g, f, s) => XI L G M C E a m c g f ∧ L + 1 ≤ 137438950000
 rel := fun | (L, G, M, C, E, a, m, c, g, f, s), (L', G', M', C', E', a', m', c', g', f', z') => XI L' G' M' C' E' a' m' c' g' f' ∧ 0 ≤ z' ∧ z' ≤ 1 ∧ L ≤ L' ∧ mu G' a' f' + z' ≤ mu G a f ∧ (G' : Int) + f' ≤ G + f ∧ L' ≤ L + 1
 R := fun | (L, G, M, C, E, a, m, c, g, f, s), (L', G', M', C', E', a', m', c', g', f', z') => .one (.c (.tint .i64))
 B' := fun | (L, G, M, C, E, a, m, c, g, f, s), (L', G', M', C', E', a', m', c', g', f', z') => [(1000, memB L'), (1001, exB L' G' M' C' E' a' m' c' g' f' (z' = 0))]
 L' := fun | (L, G, M, C, E, a, m, c, g, f, s), (L', G', M', C', E', a', m', c', g', f', z') => L'
 reads := [1000, 1001]
 tc := [1000, 1001]
 st := fun p kk => match p with | (L, G, M, C, E, a, m, c, g, f, s) => opnA ([.one (.c (.loc 1001 0)), .one (.c (.tint .i64))]) fun avs0 => kk avs0 [(1000, memB L), (1001, exB L G M C E a m c g f (pz s = 0))] (L)
 st_ok := fun ⟨L, G, M, C, E, a, m, c, g, f, s⟩ _ h => opnA_imp (fun _ h => opE_st h) h
 cps := fun p kk => match p with | (L, G, M, C, E, a, m, c, g, f, s) => ∀ z : Int, HZ s z → ∀ L' : Nat, ∀ G' : Nat, ∀ M' : Nat, ∀ C' : Nat, ∀ E' : Nat, ∀ a' : Int, ∀ m' : Int, ∀ c' : Int, ∀ g' : Int, ∀ f' : Int, ∀ z' : Int, (XI L' G' M' C' E' a' m' c' g' f') → (0 ≤ z') → (z' ≤ 1) → (L ≤ L') → (mu G' a' f' + z' ≤ mu G a f) → ((G' : Int) + f' ≤ G + f) → (L' ≤ L + 1) → kk (.one (.c (.tint .i64))) ([(1000, memB L'), (1001, exB L' G' M' C' E' a' m' c' g' f' (z' = 0))]) (L')
 cur := fun ⟨L, G, M, C, E, a, m, c, g, f, s⟩ _ h ⟨L', G', M', C', E', a', m', c', g', f', z'⟩ ⟨h1, h2, h3, h4, h5, h6, h7⟩ => opE_ok (h (pz s) (pz_hz s) L' G' M' C' E' a' m' c' g' f' z' h1 h2 h3 h4 h5 h6 h7)
set_option maxHeartbeats 8000000 in
theorem sat_load : Sat Tryz.prog tab 80 sload.spec := by
 refine sat_of ⟨tab, [(106, sknown.spec), (107, sMLoad.spec)], []⟩ (fun id => match assoc [(3, ⟨.take 0 (.take 1 (.take 2 (.take 3 (.take 4 (.take 6 (.take 7 (.take 8 (.take 10 (.take 14 (.take 15 (.take 16 (.take 5 (.take 9 (.take 17 (.take 18 (.step 11 (.step 12 (.step 13 (.take 19 (.take 20 (.brk (.step 21 (.take 22 (.take 23 (.step 24 (.done)))))))))))))))))))))))))), [1001], false, [21, 24]⟩), (6, ⟨.take 0 (.take 1 (.take 2 (.take 4 (.take 5 (.take 6 (.take 3 (.take 7 (.take 8 (.take 9 (.step 10 (.take 11 (.done)))))))))))), [1001], false, []⟩)] id with | some p => p | none => ⟨.done, [], false, []⟩) mixed_ok tab_ok eq_nil (satall_cons sat_known (satall_cons sat_MLoad sat_nil)) Tryz.func80 rfl rfl sload ⟨fun ⟨L, G, M, C, E, a, m, c, g, f, s⟩ => rfl, fun ⟨L, G, M, C, E, a, m, c, g, f, s⟩ => ⟨rfl, rfl⟩, fun ⟨L, G, M, C, E, a, m, c, g, f, s⟩ ⟨L', G', M', C', E', a', m', c', g', f', z'⟩ => ⟨rfl, rfl⟩, fun ⟨L, G, M, C, E, a, m, c, g, f, s⟩ ⟨L', G', M', C', E', a', m', c', g', f', z'⟩ => rfl, rfl, rfl⟩ (N := 55) rfl (by kernel_rfl) (fun ⟨L, G, M, C, E, a, m, c, g, f, s⟩ => Nat.le_of_ble_eq_true rfl) ?_
 intro p hp
 obtain ⟨L, G, M, C, E, a, m, c, g, f, s⟩ := p
 obtain ⟨hX, hL⟩ := hp
 have hz0 := pz_0 s
 have hz1 := pz_1 s
 rw [XI_iff] at hX
 repeat' (first | (with_reducible refine Pch.mk ?_; kernel_rfl) | (intro n hr h; replace h := h (by omega) (by omega); subst h) | (intro z hz; first | (replace hz := HZ.at hz (by omega) (by omega); subst hz) | (replace hz := HZ.no hz; subst hz) | (replace hz := HZ.yes hz; subst hz)) | (intro h; try (exfalso; first | contradiction | exact h True.intro)) | ((conv => whnf) <;> (first | (with_reducible refine WL.ex ?_) | (with_reducible refine WL.me ?_) | (with_reducible refine WL.mk ?_) | with_reducible refine And.intro ?_ ?_ | with_reducible exact True.intro | exact Eq.refl _)))
 all_goals (first | (first | assumption | contradiction | omega | exact pz_of | exact pz_yes | (intro hh; first | contradiction | exact True.intro | omega) | ((try dsimp only [sload] at *); first | assumption | omega) | ((conv => whnf); (try show (_ : Nat) ≤ _); (try dsimp only); omega) | ((try dsimp only [sload] at *); simp only [XI_iff, mu] at *; omega)) | ((conv => whnf); refine' ⟨((_, _, _, _, _, _, _, _, _, _, _) : sload.δ), _, _, _, _⟩))
 all_goals (repeat' (first | exact True.intro | exact Eq.refl _ | exact Iff.refl _ | ((conv => whnf) <;> (first | (with_reducible refine WL.ex ?_) | (with_reducible refine WL.me ?_) | (with_reducible refine WL.mk ?_) | with_reducible refine And.intro ?_ ?_ | with_reducible refine Iff.intro ?_ ?_))))
 all_goals (first | assumption | contradiction | omega | exact pz_of | exact pz_yes | (intro hh; first | contradiction | exact True.intro | omega) | ((try dsimp only [sload] at *); first | assumption | omega) | ((conv => whnf); (try show (_ : Nat) ≤ _); (try dsimp only); omega) | ((try dsimp only [sload] at *); simp only [XI_iff, mu] at *; omega))
def scas : Fs where
 α := Nat × Nat × Nat × Nat × Nat × Int × Int × Int × Int × Int × Prop
 δ := Nat × Nat × Nat × Nat × Nat × Int × Int × Int × Int × Int × Int
 A := fun | (L, G, M, C, E, a, m, c, g, f, s) => [.one (.c (.loc 1001 0)), .one (.c (.tint .i64)), .one (.c (.tint .i64)), .one (.c (.tint .i64))]
 B := fun | (L, G, M, C, E, a, m, c, g, f, s) => [(1000, memB L), (1001, exB L G M C E a m c g f s)]
 L := fun | (L, G, M, C, E, a, m, c, g, f, s) => L
 get := fun avs bx L => exGet bx L
 pre := fun | (L, G, M, C, E, a, m, c, g, f, s) => XI L G M C E a m c g f ∧ L + 1 ≤ 137438950000
 rel := fun | (L, G, M, C, E, a, m, c, g, f, s), (L', G', M', C', E', a', m', c', g', f', z') => XI L' G' M' C' E' a' m' c' g' f' ∧ 0 ≤ z' ∧ z' ≤ 1 ∧ L ≤ L' ∧ mu G' a' f' + z' ≤ mu G a f ∧ (G' : Int) + f' ≤ G + f ∧ L' ≤ L + 1
 R := fun | (L, G, M, C, E, a, m, c, g, f, s), (L', G', M', C', E', a', m', c', g', f', z') => .one (.c .tbool)
 B' := fun | (L, G, M, C, E, a, m, c, g, f, s), (L', G', M', C', E', a', m', c', g', f', z') => [(1000, memB L'), (1001, exB L' G' M' C' E' a' m' c' g' f' (z' = 0))]
 L' := fun | (L, G, M, C, E, a, m, c, g, f, s), (L', G', M', C', E', a', m', c', g', f', z') => L'
 reads := [1000, 1001]
 tc := [1000, 1001]
 st := fun p kk => match p with | (L, G, M, C, E, a, m, c, g, f, s) => opnA ([.one (.c (.loc 1001 0)), .one (.c (.tint .i64)), .one (.c (.tint .i64)), .one (.c (.tint .i64))]) fun avs0 => kk avs0 [(1000, memB L), (1001, exB L G M C E a m c g f (pz s = 0))] (L)
 st_ok := fun ⟨L, G, M, C, E, a, m, c, g, f, s⟩ _ h => opnA_imp (fun _ h => opE_st h) h
 cps := fun p kk => match p with | (L, G, M, C, E, a, m, c, g, f, s) => ∀ z : Int, HZ s z → ∀ L' : Nat, ∀ G' : Nat, ∀ M' : Nat, ∀ C' : Nat, ∀ E' : Nat, ∀ a' : Int, ∀ m' : Int, ∀ c' : Int, ∀ g' : Int, ∀ f' : Int, ∀ z' : Int, (XI L' G' M' C' E' a' m' c' g' f') → (0 ≤ z') → (z' ≤ 1) → (L ≤ L') → (mu G' a' f' + z' ≤ mu G a f) → ((G' : Int) + f' ≤ G + f) → (L' ≤ L + 1) → kk (.one (.c .tbool)) ([(1000, memB L'), (1001, exB L' G' M' C' E' a' m' c' g' f' (z' = 0))]) (L')
 cur := fun ⟨L, G, M, C, E, a, m, c, g, f, s⟩ _ h ⟨L', G', M', C', E', a', m', c', g', f', z'⟩ ⟨h1, h2, h3, h4, h5, h6, h7⟩ => opE_ok (h (pz s) (pz_hz s) L' G' M' C' E' a' m' c' g' f' z' h1 h2 h3 h4 h5 h6 h7)
set_option maxHeartbeats 8000000 in
theorem sat_cas : Sat Tryz.prog tab 82 scas.spec := by
 refine sat_of ⟨tab, [(106, sknown.spec), (109, sMCAS.spec)], []⟩ (fun id => match assoc [(6, ⟨.take 0 (.take 1 (.take 2 (.take 3 (.take 4 (.take 6 (.take 9 (.take 10 (.take 11 (.take 5 (.take 12 (.take 13 (.step 7 (.step 8 (.take 14 (.take 15 (.brk (.step 16 (.take 17 (.take 18 (.step 19 (.done))))))))))))))))))))), [1001], false, [16, 19]⟩), (7, ⟨.take 0 (.take 1 (.take 2 (.take 3 (.take 4 (.take 5 (.take 6 (.take 7 (.take 9 (.take 10 (.take 11 (.take 8 (.take 12 (.take 13 (.take 14 (.step 15 (.take 16 (.take 17 (.take 18 (.done))))))))))))))))))), [1001], false, []⟩)] id with | some p => p | none => ⟨.done, [], false, []⟩) mixed_ok tab_ok eq_nil (satall_cons sat_known (satall_cons sat_MCAS sat_nil)) Tryz.func82 rfl rfl scas ⟨fun ⟨L, G, M, C, E, a, m, c, g, f, s⟩ => rfl, fun ⟨L, G, M, C, E, a, m, c, g, f, s⟩ => ⟨rfl, rfl⟩, fun ⟨L, G, M, C, E, a, m, c, g, f, s⟩ ⟨L', G', M', C', E', a', m', c', g', f', z'⟩ => ⟨rfl, rfl⟩, fun ⟨L, G, M, C, E, a, m, c, g, f, s⟩ ⟨L', G', M', C', E', a', m', c', g', f', z'⟩ => rfl, rfl, rfl⟩ (N := 66) rfl (by kernel_rfl) (fun ⟨L, G, M, C, E, a, m, c, g, f, s⟩ => Nat.le_of_ble_eq_true rfl) ?_
 intro p hp
 obtain ⟨L, G, M, C, E, a, m, c, g, f, s⟩ := p
 obtain ⟨hX, hL⟩ := hp
 have hz0 := pz_0 s
 have hz1 := pz_1 s
 rw [XI_iff] at hX
 repeat' (first | (with_reducible refine Pch.mk ?_; kernel_rfl) | (intro n hr h; replace h := h (by omega) (by omega); subst h) | (intro z hz; first | (replace hz := HZ.at hz (by omega) (by omega); subst hz) | (replace hz := HZ.no hz; subst hz) | (replace hz := HZ.yes hz; subst hz)) | (intro h; try (exfalso; first | contradiction | exact h True.intro)) | ((conv => whnf) <;> (first | (with_reducible refine WL.ex ?_) | (with_reducible refine WL.me ?_) | (with_reducible refine WL.mk ?_) | with_reducible refine And.intro ?_ ?_ | with_reducible exact True.intro | exact Eq.refl _)))
 all_goals (first | (first | assumption | contradiction | omega | exact pz_of | exact pz_yes | (intro hh; first | contradiction | exact True.intro | omega) | ((try dsimp only [scas] at *); first | assumption | omega) | ((conv => whnf); (try show (_ : Nat) ≤ _); (try dsimp only); omega) | ((try dsimp only [scas] at *); simp only [XI_iff, mu] at *; omega)) | ((conv => whnf); refine' ⟨((_, _, _, _, _, _, _, _, _, _, _) : scas.δ), _, _, _, _⟩))
 all_goals (repeat' (first | exact True.intro | exact Eq.refl _ | exact Iff.refl _ | ((conv => whnf) <;> (first | (with_reducible refine WL.ex ?_) | (with_reducible refine WL.me ?_) | (with_reducible refine WL.mk ?_) | with_reducible refine And.intro ?_ ?_ | with_reducible refine Iff.intro ?_ ?_))))
 all_goals (first | assumption | contradiction | omega | exact pz_of | exact pz_yes | (intro hh; first | contradiction | exact True.intro | omega) | ((try dsimp only [scas] at *); first | assumption | omega) | ((conv => whnf); (try show (_ : Nat) ≤ _); (try dsimp only); omega) | ((try dsimp only [scas] at *); simp only [XI_iff, mu] at *; omega))
def salloc : Fs where
 α := Nat × Nat × Nat × Nat × Nat × Int × Int × Int × Int × Int × Prop
 δ := Nat × Nat × Nat × Nat × Nat × Int × Int × Int × Int × Int × Int
 A := fun | (L, G, M, C, E, a, m, c, g, f, s) => [.one (.c (.loc 1001 0)), .one (.agg (ndT L)), .one (.c (.tint .i64))]
 B := fun | (L, G, M, C, E, a, m, c, g, f, s) => [(1000, memB L), (1001, exB L G M C E a m c g f s)]
 L := fun | (L, G, M, C, E, a, m, c, g, f, s) => L
 get := fun avs bx L => exGet bx L
 pre := fun | (L, G, M, C, E, a, m, c, g, f, s) => XI L G M C E a m c g f ∧ L + 2 ≤ 137438950000
 rel := fun | (L, G, M, C, E, a, m, c, g, f, s), (L', G', M', C', E', a', m', c', g', f', z') => XI L' G' M' C' E' a' m' c' g' f' ∧ 0 ≤ z' ∧ z' ≤ 1 ∧ L ≤ L' ∧ mu G' a' f' + z' ≤ mu G a f + pz s ∧ (G' : Int) + f' ≤ G + f ∧ L' ≤ L + 2
 R := fun | (L, G, M, C, E, a, m, c, g, f, s), (L', G', M', C', E', a', m', c', g', f', z') => .one (.c (.tint .i64))
 B' := fun | (L, G, M, C, E, a, m, c, g, f, s), (L', G', M', C', E', a', m', c', g', f', z') => [(1000, memB L'), (1001, exB L' G' M' C' E' a' m' c' g' f' (z' = 0))]
 L' := fun | (L, G, M, C, E, a, m, c, g, f, s), (L', G', M', C', E', a', m', c', g', f', z') => L'
 reads := [1000, 1001]
 tc := [1000, 1001]
 st := fun p kk => match p with | (L, G, M, C, E, a, m, c, g, f, s) => opnA ([.one (.c (.loc 1001 0)), .one (.agg (ndT L)), .one (.c (.tint .i64))]) fun avs0 => kk avs0 [(1000, memB L), (1001, exB L G M C E a m c g f (pz s = 0))] (L)
 st_ok := fun ⟨L, G, M, C, E, a, m, c, g, f, s⟩ _ h => opnA_imp (fun _ h => opE_st h) h
 cps := fun p kk => match p with | (L, G, M, C, E, a, m, c, g, f, s) => ∀ z : Int, HZ s z → ∀ L' : Nat, ∀ G' : Nat, ∀ M' : Nat, ∀ C' : Nat, ∀ E' : Nat, ∀ a' : Int, ∀ m' : Int, ∀ c' : Int, ∀ g' : Int, ∀ f' : Int, ∀ z' : Int, (XI L' G' M' C' E' a' m' c' g' f') → (0 ≤ z') → (z' ≤ 1) → (L ≤ L') → (mu G' a' f' + z' ≤ mu G a f + z) → ((G' : Int) + f' ≤ G + f) → (L' ≤ L + 2) → kk (.one (.c (.tint .i64))) ([(1000, memB L'), (1001, exB L' G' M' C' E' a' m' c' g' f' (z' = 0))]) (L')
 cur := fun ⟨L, G, M, C, E, a, m, c, g, f, s⟩ _ h ⟨L', G', M', C', E', a', m', c', g', f', z'⟩ ⟨h1, h2, h3, h4, h5, h6, h7⟩ => opE_ok (h (pz s) (pz_hz s) L' G' M' C' E' a' m' c' g' f' z' h1 h2 h3 h4 h5 h6 h7)
set_option maxHeartbeats 8000000 in
theorem sat_alloc : Sat Tryz.prog tab 85 salloc.spec := by
 refine sat_of ⟨tab, [(51, sMAlloc.spec)], []⟩ (fun id => match assoc [(3, ⟨.take 0 (.take 1 (.take 2 (.take 4 (.take 5 (.take 6 (.take 3 (.take 7 (.take 8 (.take 9 (.done)))))))))), [1001], false, []⟩), (4, ⟨.take 0 (.take 1 (.take 2 (.take 3 (.take 5 (.take 6 (.take 7 (.take 10 (.take 4 (.take 8 (.take 9 (.step 11 (.step 12 (.step 13 (.take 14 (.take 15 (.brk (.step 16 (.done)))))))))))))))))), [4, 1001], false, [16]⟩), (6, ⟨.take 0 (.take 1 (.take 2 (.take 4 (.take 5 (.take 6 (.take 3 (.take 7 (.take 8 (.take 9 (.step 10 (.take 11 (.done)))))))))))), [1001], false, []⟩)] id with | some p => p | none => ⟨.done, [], false, []⟩) mixed_ok tab_ok eq_nil (satall_cons sat_MAlloc sat_nil) Tryz.func85 rfl rfl salloc ⟨fun ⟨L, G, M, C, E, a, m, c, g, f, s⟩ => rfl, fun ⟨L, G, M, C, E, a, m, c, g, f, s⟩ => ⟨rfl, rfl⟩, fun ⟨L, G, M, C, E, a, m, c, g, f, s⟩ ⟨L', G', M', C', E', a', m', c', g', f', z'⟩ => ⟨rfl, rfl⟩, fun ⟨L, G, M, C, E, a, m, c, g, f, s⟩ ⟨L', G', M', C', E', a', m', c', g', f', z'⟩ => rfl, rfl, rfl⟩ (N := 55) rfl (by kernel_rfl) (fun ⟨L, G, M, C, E, a, m, c, g, f, s⟩ => Nat.le_of_ble_eq_true rfl) ?_
 intro p hp
 obtain ⟨L, G, M, C, E, a, m, c, g, f, s⟩ := p
 obtain ⟨hX, hL⟩ := hp
 have hz0 := pz_0 s
 have hz1 := pz_1 s
 rw [XI_iff] at hX
 repeat' (first | (with_reducible refine Pch.mk ?_; kernel_rfl) | (intro n hr h; replace h := h (by omega) (by omega); subst h) | (intro z hz; first | (replace hz := HZ.at hz (by omega) (by omega); subst hz) | (replace hz := HZ.no hz; subst hz) | (replace hz := HZ.yes hz; subst hz)) | (intro h; try (exfalso; first | contradiction | exact h True.intro)) | ((conv => whnf) <;> (first | (with_reducible refine WL.ex ?_) | (with_reducible refine WL.me ?_) | (with_reducible refine WL.mk ?_) | with_reducible refine And.intro ?_ ?_ | with_reducible exact True.intro | exact Eq.refl _)))
 all_goals (first | (first | assumption | contradiction | omega | exact pz_of | exact pz_yes | (intro hh; first | contradiction | exact True.intro | omega) | ((try dsimp only [salloc] at *); first | assumption | omega) | ((conv => whnf); (try show (_ : Nat) ≤ _); (try dsimp only); omega) | ((try dsimp only [salloc] at *); simp only [XI_iff, mu] at *; omega)) | ((conv => whnf); refine' ⟨((_, _, _, _, _, _, _, _, _, _, _) : salloc.δ), _, _, _, _⟩))
 all_goals (repeat' (first | exact True.intro | exact Eq.refl _ | exact Iff.refl _ | ((conv => whnf) <;> (first | (with_reducible refine WL.ex ?_) | (with_reducible refine WL.me ?_) | (with_reducible refine WL.mk ?_) | with_reducible refine And.intro ?_ ?_ | with_reducible refine Iff.intro ?_ ?_))))
 all_goals (first | assumption | contradiction | omega | exact pz_of | exact pz_yes | (intro hh; first | contradiction | exact True.intro | omega) | ((try dsimp only [salloc] at *); first | assumption | omega) | ((conv => whnf); (try show (_ : Nat) ≤ _); (try dsimp only); omega) | ((try dsimp only [salloc] at *); simp only [XI_iff, mu] at *; omega))
def scell : Fs where
 α := Nat × Nat × Nat × Nat × Nat × Int × Int × Int × Int × Int × Prop
 δ := Nat × Nat × Nat × Nat × Nat × Int × Int × Int × Int × Int × Int
 A := fun | (L, G, M, C, E, a, m, c, g, f, s) => [.one (.c (.loc 1001 0)), .one (.c (.tint .i64))]
 B := fun | (L, G, M, C, E, a, m, c, g, f, s) => [(1000, memB L), (1001, exB L G M C E a m c g f s)]
 L := fun | (L, G, M, C, E, a, m, c, g, f, s) => L
 get := fun avs bx L => exGet bx L
 pre := fun | (L, G, M, C, E, a, m, c, g, f, s) => XI L G M C E a m c g f ∧ L + 1 ≤ 137438950000
 rel := fun | (L, G, M, C, E, a, m, c, g, f, s), (L', G', M', C', E', a', m', c', g', f', z') => XI L' G' M' C' E' a' m' c' g' f' ∧ 0 ≤ z' ∧ z' ≤ 1 ∧ L ≤ L' ∧ mu G' a' f' + z' ≤ mu G a f + pz s ∧ (G' : Int) + f' ≤ G + f ∧ L' ≤ L + 1
 R := fun | (L, G, M, C, E, a, m, c, g, f, s), (L', G', M', C', E', a', m', c', g', f', z') => .one (.c (.tint .i64))
 B' := fun | (L, G, M, C, E, a, m, c, g, f, s), (L', G', M', C', E', a', m', c', g', f', z') => [(1000, memB L'), (1001, exB L' G' M' C' E' a' m' c' g' f' (z' = 0))]
 L' := fun | (L, G, M, C, E, a, m, c, g, f, s), (L', G', M', C', E', a', m', c', g', f', z') => L'
 reads := [1000, 1001]
 tc := [1000, 1001]
 st := fun p kk => match p with | (L, G, M, C, E, a, m, c, g, f, s) => opnA ([.one (.c (.loc 1001 0)), .one (.c (.tint .i64))]) fun avs0 => kk avs0 [(1000, memB L), (1001, exB L G M C E a m c g f (pz s = 0))] (L)
 st_ok := fun ⟨L, G, M, C, E, a, m, c, g, f, s⟩ _ h => opnA_imp (fun _ h => opE_st h) h
 cps := fun p kk => match p with | (L, G, M, C, E, a, m, c, g, f, s) => ∀ z : Int, HZ s z → ∀ L' : Nat, ∀ G' : Nat, ∀ M' : Nat, ∀ C' : Nat, ∀ E' : Nat, ∀ a' : Int, ∀ m' : Int, ∀ c' : Int, ∀ g' : Int, ∀ f' : Int, ∀ z' : Int, (XI L' G' M' C' E' a' m' c' g' f') → (0 ≤ z') → (z' ≤ 1) → (L ≤ L') → (mu G' a' f' + z' ≤ mu G a f + z) → ((G' : Int) + f' ≤ G + f) → (L' ≤ L + 1) → kk (.one (.c (.tint .i64))) ([(1000, memB L'), (1001, exB L' G' M' C' E' a' m' c' g' f' (z' = 0))]) (L')
 cur := fun ⟨L, G, M, C, E, a, m, c, g, f, s⟩ _ h ⟨L', G', M', C', E', a', m', c', g', f', z'⟩ ⟨h1, h2, h3, h4, h5, h6, h7⟩ => opE_ok (h (pz s) (pz_hz s) L' G' M' C' E' a' m' c' g' f' z' h1 h2 h3 h4 h5 h6 h7)
set_option maxHeartbeats 8000000 in
theorem sat_cell : Sat Tryz.prog tab 99 scell.spec := by
 refine sat_of ⟨tab, [(53, sNewCell.spec)], []⟩ (fun id => match assoc [(3, ⟨.take 0 (.take 1 (.take 2 (.take 4 (.take 5 (.take 6 (.take 3 (.take 7 (.take 8 (.take 9 (.done)))))))))), [1001], false, []⟩), (4, ⟨.take 0 (.take 1 (.take 2 (.take 3 (.take 5 (.take 6 (.take 7 (.take 9 (.take 4 (.take 8 (.step 10 (.step 11 (.step 12 (.take 13 (.take 14 (.brk (.step 15 (.done))))))))))))))))), [1001], false, [15]⟩), (6, ⟨.take 0 (.take 1 (.take 2 (.take 4 (.take 5 (.take 6 (.take 3 (.take 7 (.take 8 (.take 9 (.step 10 (.take 11 (.done)))))))))))), [1001], false, []⟩)] id with | some p => p | none => ⟨.done, [], false, []⟩) mixed_ok tab_ok eq_nil (satall_cons sat_NewCell sat_nil) Tryz.func99 rfl rfl scell ⟨fun ⟨L, G, M, C, E, a, m, c, g, f, s⟩ => rfl, fun ⟨L, G, M, C, E, a, m, c, g, f, s⟩ => ⟨rfl, rfl⟩, fun ⟨L, G, M, C, E, a, m, c, g, f, s⟩ ⟨L', G', M', C', E', a', m', c', g', f', z'⟩ => ⟨rfl, rfl⟩, fun ⟨L, G, M, C, E, a, m, c, g, f, s⟩ ⟨L', G', M', C', E', a', m', c', g', f', z'⟩ => rfl, rfl, rfl⟩ (N := 52) rfl (by kernel_rfl) (fun ⟨L, G, M, C, E, a, m, c, g, f, s⟩ => Nat.le_of_ble_eq_true rfl) ?_
 intro p hp
 obtain ⟨L, G, M, C, E, a, m, c, g, f, s⟩ := p
 obtain ⟨hX, hL⟩ := hp
 have hz0 := pz_0 s
 have hz1 := pz_1 s
 rw [XI_iff] at hX
 repeat' (first | (with_reducible refine Pch.mk ?_; kernel_rfl) | (intro n hr h; replace h := h (by omega) (by omega); subst h) | (intro z hz; first | (replace hz := HZ.at hz (by omega) (by omega); subst hz) | (replace hz := HZ.no hz; subst hz) | (replace hz := HZ.yes hz; subst hz)) | (intro h; try (exfalso; first | contradiction | exact h True.intro)) | ((conv => whnf) <;> (first | (with_reducible refine WL.ex ?_) | (with_reducible refine WL.me ?_) | (with_reducible refine WL.mk ?_) | with_reducible refine And.intro ?_ ?_ | with_reducible exact True.intro | exact Eq.refl _)))
 all_goals (first | (first | assumption | contradiction | omega | exact pz_of | exact pz_yes | (intro hh; first | contradiction | exact True.intro | omega) | ((try dsimp only [scell] at *); first | assumption | omega) | ((conv => whnf); (try show (_ : Nat) ≤ _); (try dsimp only); omega) | ((try dsimp only [scell] at *); simp only [XI_iff, mu] at *; omega)) | ((conv => whnf); refine' ⟨((_, _, _, _, _, _, _, _, _, _, _) : scell.δ), _, _, _, _⟩))
 all_goals (repeat' (first | exact True.intro | exact Eq.refl _ | exact Iff.refl _ | ((conv => whnf) <;> (first | (with_reducible refine WL.ex ?_) | (with_reducible refine WL.me ?_) | (with_reducible refine WL.mk ?_) | with_reducible refine And.intro ?_ ?_ | with_reducible refine Iff.intro ?_ ?_))))
 all_goals (first | assumption | contradiction | omega | exact pz_of | exact pz_yes | (intro hh; first | contradiction | exact True.intro | omega) | ((try dsimp only [scell] at *); first | assumption | omega) | ((conv => whnf); (try show (_ : Nat) ≤ _); (try dsimp only); omega) | ((try dsimp only [scell] at *); simp only [XI_iff, mu] at *; omega))
def sgen : Fs where
 α := Nat × Nat × Nat × Nat × Nat × Int × Int × Int × Int × Int × Prop
 δ := Nat × Nat × Nat × Nat × Nat × Int × Int × Int × Int × Int × Int
 A := fun | (L, G, M, C, E, a, m, c, g, f, s) => [.one (.c (.loc 1001 0))]
 B := fun | (L, G, M, C, E, a, m, c, g, f, s) => [(1000, memB L), (1001, exB L G M C E a m c g f s)]
 L := fun | (L, G, M, C, E, a, m, c, g, f, s) => L
 get := fun avs bx L => exGet bx L
 pre := fun | (L, G, M, C, E, a, m, c, g, f, s) => XI L G M C E a m c g f ∧ L + 1 ≤ 137438950000
 rel := fun | (L, G, M, C, E, a, m, c, g, f, s), (L', G', M', C', E', a', m', c', g', f', z') => XI L' G' M' C' E' a' m' c' g' f' ∧ 0 ≤ z' ∧ z' ≤ 1 ∧ L ≤ L' ∧ mu G' a' f' + z' ≤ mu G a f + pz s ∧ (G' : Int) + f' ≤ G + f ∧ L' ≤ L + 1
 R := fun | (L, G, M, C, E, a, m, c, g, f, s), (L', G', M', C', E', a', m', c', g', f', z') => .one (.c (.tint .i64))
 B' := fun | (L, G, M, C, E, a, m, c, g, f, s), (L', G', M', C', E', a', m', c', g', f', z') => [(1000, memB L'), (1001, exB L' G' M' C' E' a' m' c' g' f' (z' = 0))]
 L' := fun | (L, G, M, C, E, a, m, c, g, f, s), (L', G', M', C', E', a', m', c', g', f', z') => L'
 reads := [1000, 1001]
 tc := [1000, 1001]
 st := fun p kk => match p with | (L, G, M, C, E, a, m, c, g, f, s) => opnA ([.one (.c (.loc 1001 0))]) fun avs0 => kk avs0 [(1000, memB L), (1001, exB L G M C E a m c g f (pz s = 0))] (L)
 st_ok := fun ⟨L, G, M, C, E, a, m, c, g, f, s⟩ _ h => opnA_imp (fun _ h => opE_st h) h
 cps := fun p kk => match p with | (L, G, M, C, E, a, m, c, g, f, s) => ∀ z : Int, HZ s z → ∀ L' : Nat, ∀ G' : Nat, ∀ M' : Nat, ∀ C' : Nat, ∀ E' : Nat, ∀ a' : Int, ∀ m' : Int, ∀ c' : Int, ∀ g' : Int, ∀ f' : Int, ∀ z' : Int, (XI L' G' M' C' E' a' m' c' g' f') → (0 ≤ z') → (z' ≤ 1) → (L ≤ L') → (mu G' a' f' + z' ≤ mu G a f + z) → ((G' : Int) + f' ≤ G + f) → (L' ≤ L + 1) → kk (.one (.c (.tint .i64))) ([(1000, memB L'), (1001, exB L' G' M' C' E' a' m' c' g' f' (z' = 0))]) (L')
 cur := fun ⟨L, G, M, C, E, a, m, c, g, f, s⟩ _ h ⟨L', G', M', C', E', a', m', c', g', f', z'⟩ ⟨h1, h2, h3, h4, h5, h6, h7⟩ => opE_ok (h (pz s) (pz_hz s) L' G' M' C' E' a' m' c' g' f' z' h1 h2 h3 h4 h5 h6 h7)
set_option maxHeartbeats 8000000 in
theorem sat_gen : Sat Tryz.prog tab 101 sgen.spec := by
 refine sat_of ⟨tab, [(52, sNewGen.spec)], []⟩ (fun id => match assoc [(3, ⟨.take 0 (.take 1 (.take 2 (.take 4 (.take 5 (.take 6 (.take 3 (.take 7 (.take 8 (.take 9 (.done)))))))))), [1001], false, []⟩), (4, ⟨.take 0 (.take 1 (.take 2 (.take 3 (.take 5 (.take 6 (.take 7 (.take 4 (.take 8 (.step 9 (.step 10 (.step 11 (.take 12 (.take 13 (.brk (.step 14 (.done)))))))))))))))), [1001], false, [14]⟩), (6, ⟨.take 0 (.take 1 (.take 2 (.take 4 (.take 5 (.take 6 (.take 3 (.take 7 (.take 8 (.take 9 (.step 10 (.take 11 (.done)))))))))))), [1001], false, []⟩)] id with | some p => p | none => ⟨.done, [], false, []⟩) mixed_ok tab_ok eq_nil (satall_cons sat_NewGen sat_nil) Tryz.func101 rfl rfl sgen ⟨fun ⟨L, G, M, C, E, a, m, c, g, f, s⟩ => rfl, fun ⟨L, G, M, C, E, a, m, c, g, f, s⟩ => ⟨rfl, rfl⟩, fun ⟨L, G, M, C, E, a, m, c, g, f, s⟩ ⟨L', G', M', C', E', a', m', c', g', f', z'⟩ => ⟨rfl, rfl⟩, fun ⟨L, G, M, C, E, a, m, c, g, f, s⟩ ⟨L', G', M', C', E', a', m', c', g', f', z'⟩ => rfl, rfl, rfl⟩ (N := 49) rfl (by kernel_rfl) (fun ⟨L, G, M, C, E, a, m, c, g, f, s⟩ => Nat.le_of_ble_eq_true rfl) ?_
 intro p hp
 obtain ⟨L, G, M, C, E, a, m, c, g, f, s⟩ := p
 obtain ⟨hX, hL⟩ := hp
 have hz0 := pz_0 s
 have hz1 := pz_1 s
 rw [XI_iff] at hX
 repeat' (first | (with_reducible refine Pch.mk ?_; kernel_rfl) | (intro n hr h; replace h := h (by omega) (by omega); subst h) | (intro z hz; first | (replace hz := HZ.at hz (by omega) (by omega); subst hz) | (replace hz := HZ.no hz; subst hz) | (replace hz := HZ.yes hz; subst hz)) | (intro h; try (exfalso; first | contradiction | exact h True.intro)) | ((conv => whnf) <;> (first | (with_reducible refine WL.ex ?_) | (with_reducible refine WL.me ?_) | (with_reducible refine WL.mk ?_) | with_reducible refine And.intro ?_ ?_ | with_reducible exact True.intro | exact Eq.refl _)))
 all_goals (first | (first | assumption | contradiction | omega | exact pz_of | exact pz_yes | (intro hh; first | contradiction | exact True.intro | omega) | ((try dsimp only [sgen] at *); first | assumption | omega) | ((conv => whnf); (try show (_ : Nat) ≤ _); (try dsimp only); omega) | ((try dsimp only [sgen] at *); simp only [XI_iff, mu] at *; omega)) | ((conv => whnf); refine' ⟨((_, _, _, _, _, _, _, _, _, _, _) : sgen.δ), _, _, _, _⟩))
 all_goals (repeat' (first | exact True.intro | exact Eq.refl _ | exact Iff.refl _ | ((conv => whnf) <;> (first | (with_reducible refine WL.ex ?_) | (with_reducible refine WL.me ?_) | (with_reducible refine WL.mk ?_) | with_reducible refine And.intro ?_ ?_ | with_reducible refine Iff.intro ?_ ?_))))
 all_goals (first | assumption | contradiction | omega | exact pz_of | exact pz_yes | (intro hh; first | contradiction | exact True.intro | omega) | ((try dsimp only [sgen] at *); first | assumption | omega) | ((conv => whnf); (try show (_ : Nat) ≤ _); (try dsimp only); omega) | ((try dsimp only [sgen] at *); simp only [XI_iff, mu] at *; omega))
def sxnode : Fs where
 α := Nat × Nat × Nat × Nat × Nat × Int × Int × Int × Int × Int × Prop
 δ := Unit
 A := fun | (L, G, M, C, E, a, m, c, g, f, s) => [.one (.c (.loc 1001 0)), .one (.c (.tint .i64))]
 B := fun | (L, G, M, C, E, a, m, c, g, f, s) => [(1000, memB L), (1001, exB L G M C E a m c g f s)]
 L := fun | (L, G, M, C, E, a, m, c, g, f, s) => L
 get := fun avs bx L => exGet bx L
 pre := fun | (L, G, M, C, E, a, m, c, g, f, s) => XI L G M C E a m c g f ∧ L + 0 ≤ 137438950000
 rel := fun | (L, G, M, C, E, a, m, c, g, f, s), () => True
 R := fun | (L, G, M, C, E, a, m, c, g, f, s), () => .one (.agg (ndT L))
 B' := fun | (L, G, M, C, E, a, m, c, g, f, s), () => [(1000, memB L), (1001, exB L G M C E a m c g f s)]
 L' := fun | (L, G, M, C, E, a, m, c, g, f, s), () => L
 reads := [1000, 1001]
 tc := [1000]
 st := fun p kk => match p with | (L, G, M, C, E, a, m, c, g, f, s) => opnA ([.one (.c (.loc 1001 0)), .one (.c (.tint .i64))]) fun avs0 => kk avs0 [(1000, memB L), (1001, exB L G M C E a m c g f (pz s = 0))] (L)
 st_ok := fun ⟨L, G, M, C, E, a, m, c, g, f, s⟩ _ h => opnA_imp (fun _ h => opE_st h) h
 cps := fun p kk => match p with | (L, G, M, C, E, a, m, c, g, f, s) => kk (.one (.agg (ndT L))) ([(1000, memB L), (1001, exB L G M C E a m c g f s)]) (L)
 cur := fun ⟨L, G, M, C, E, a, m, c, g, f, s⟩ _ h () _ => opE_ok (h )
set_option maxHeartbeats 8000000 in
theorem sat_xnode : Sat Tryz.prog tab 81 sxnode.spec := by
 refine sat_of ⟨tab, [(108, sMNode.spec)], []⟩ (fun _ => ⟨.done, [], false, []⟩) mixed_ok tab_ok eq_nil (satall_cons sat_MNode sat_nil) Tryz.func81 rfl rfl sxnode ⟨fun ⟨L, G, M, C, E, a, m, c, g, f, s⟩ => rfl, fun ⟨L, G, M, C, E, a, m, c, g, f, s⟩ => ⟨rfl, rfl⟩, fun ⟨L, G, M, C, E, a, m, c, g, f, s⟩ _ => ⟨rfl, rfl⟩, fun ⟨L, G, M, C, E, a, m, c, g, f, s⟩ _ => rfl, rfl, rfl⟩ (N := 11) rfl (by kernel_rfl) (fun ⟨L, G, M, C, E, a, m, c, g, f, s⟩ => Nat.le_of_ble_eq_true rfl) ?_
 intro p hp
 obtain ⟨L, G, M, C, E, a, m, c, g, f, s⟩ := p
 obtain ⟨hX, hL⟩ := hp
 have hz0 := pz_0 s
 have hz1 := pz_1 s
 rw [XI_iff] at hX
 repeat' (first | (with_reducible refine Pch.mk ?_; kernel_rfl) | (intro n hr h; replace h := h (by omega) (by omega); subst h) | (intro z hz; first | (replace hz := HZ.at hz (by omega) (by omega); subst hz) | (replace hz := HZ.no hz; subst hz) | (replace hz := HZ.yes hz; subst hz)) | (intro h; try (exfalso; first | contradiction | exact h True.intro)) | ((conv => whnf) <;> (first | (with_reducible refine WL.ex ?_) | (with_reducible refine WL.me ?_) | (with_reducible refine WL.mk ?_) | with_reducible refine And.intro ?_ ?_ | with_reducible exact True.intro | exact Eq.refl _)))
 all_goals (first | (first | assumption | contradiction | omega | exact pz_of | exact pz_yes | (intro hh; first | contradiction | exact True.intro | omega) | ((try dsimp only [sxnode] at *); first | assumption | omega) | ((conv => whnf); (try show (_ : Nat) ≤ _); (try dsimp only); omega) | ((try dsimp only [sxnode] at *); simp only [XI_iff, mu] at *; omega)) | ((conv => whnf); refine' ⟨(() : sxnode.δ), _, _, _, _⟩))
 all_goals (repeat' (first | exact True.intro | exact Eq.refl _ | exact Iff.refl _ | ((conv => whnf) <;> (first | (with_reducible refine WL.ex ?_) | (with_reducible refine WL.me ?_) | (with_reducible refine WL.mk ?_) | with_reducible refine And.intro ?_ ?_ | with_reducible refine Iff.intro ?_ ?_))))
 all_goals (first | assumption | contradiction | omega | exact pz_of | exact pz_yes | (intro hh; first | contradiction | exact True.intro | omega) | ((try dsimp only [sxnode] at *); first | assumption | omega) | ((conv => whnf); (try show (_ : Nat) ≤ _); (try dsimp only); omega) | ((try dsimp only [sxnode] at *); simp only [XI_iff, mu] at *; omega))
end Tv
end Go.Proofs.YtpabdmcbahmjnaaGreat
