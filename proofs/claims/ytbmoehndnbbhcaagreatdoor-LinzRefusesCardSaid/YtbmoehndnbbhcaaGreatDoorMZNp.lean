/- Families that differ in the order of their maps alone: plain law. Families as plain data: the values' ranges, the results' ranges; a list that is played. No walk in sight. The candidates of a search, plain. No program in sight. -/
import Derived.Test.YtbmoehndnbbhcaaGreatDoorMRMem
import Derived.Test.YtbmoehndnbbhcaaGreatDoorMZE
import Derived.Test.YtbmoehndnbbhcaaGreatDoorMRefR
namespace Go.Proofs.YtbmoehndnbbhcaaGreatDoor
set_option linter.unusedVariables false
set_option linter.unusedSimpArgs false
open Go.RowKit Go.MapKept
structure EqvA (A B : AFam) : Prop where
  mask : A.mask = B.mask
  iters : A.iters = B.iters
  maps : A.maps.Perm B.maps
theorem EqvA.refl (A : AFam) : EqvA A A := ⟨rfl, rfl, List.Perm.refl _⟩
theorem EqvA.trans {A B C : AFam} (h : EqvA A B) (k : EqvA B C) : EqvA A C := ⟨h.mask.trans k.mask, h.iters.trans k.iters, h.maps.trans k.maps⟩
theorem EqvA.look {A B : AFam} (h : EqvA A B) (hn : NdA B) (k : Int) : alook A.maps k = alook B.maps k := alook_perm hn.maps h.maps k
theorem aset_perm2 {L M : List (Int × AMap)} (hp : L.Perm M) (hn : (M.map (·.1)).Nodup) (k : Int) (v : AMap) : (aset L k v).Perm (aset M k v) := by
  have hL : (L.map (·.1)).Nodup := (hp.map (·.1)).nodup_iff.2 hn
  have nL := aset_nodup hL k v
  have nM := aset_nodup hn k v
  have hl : ∀ q, alook (aset L k v) q = alook (aset M k v) q := fun q => by
    by_cases hq : q = k
    · subst hq; rw [alook_aset_self, alook_aset_self]
    · rw [alook_aset_ne _ _ _ _ hq, alook_aset_ne _ _ _ _ hq, alook_perm hn hp]
  refine (List.perm_ext_iff_of_nodup (nodup_of_keys nL) (nodup_of_keys nM)).2 fun p => ⟨fun h => ?_, fun h => ?_⟩
  · have := alook_some nL h
    rw [hl] at this
    exact alook_mem this
  · have := alook_some nM h
    rw [← hl] at this
    exact alook_mem this
theorem EqvA.set {A B : AFam} (h : EqvA A B) (hn : NdA B) (k : Int) (v : AMap) : EqvA { A with maps := aset A.maps k v } { B with maps := aset B.maps k v } := ⟨h.mask, h.iters, aset_perm2 h.maps hn.maps k v⟩
theorem refusal_eqv {A B : AFam} (h : EqvA A B) (hn : NdA B) (t i : Int) (o : OpD) : refusalA A t i o = refusalA B t i o := by
  have hl := h.look hn
  unfold refusalA unfitA takenA lostA
  simp only [hl, h.iters]
theorem applyA_eqv {A B : AFam} (h : EqvA A B) (hn : NdA B) (t i : Int) (o : OpD) : (applyA A t i o).2 = (applyA B t i o).2 ∧ EqvA (applyA A t i o).1 (applyA B t i o).1 := by
  have hl := h.look hn
  unfold applyA
  rw [refusal_eqv h hn]
  by_cases hz : refusalA B t i o ≠ 0
  · rw [if_pos hz, if_pos hz]
    exact ⟨rfl, h⟩
  · rw [if_neg hz, if_neg hz]
    by_cases hk : o.kind = 13
    · rw [if_pos hk, if_pos hk]
      unfold nextA
      rw [h.iters]
      cases hi : alook B.iters o.handle with
      | none => exact ⟨rfl, h⟩
      | some it =>
        simp only [hl]
        cases hm : alook B.maps it.number with
        | none => exact ⟨rfl, h⟩
        | some d =>
          simp only
          by_cases hp : (d.vals.length : Int) ≤ it.pos
          · rw [if_pos hp, if_pos hp]
            exact ⟨rfl, h⟩
          · rw [if_neg hp, if_neg hp, h.mask]
            exact ⟨rfl, ⟨rfl, rfl, h.maps⟩⟩
    · rw [if_neg hk, if_neg hk, hl]
      cases hm : alook B.maps o.handle with
      | none => exact ⟨rfl, h⟩
      | some d =>
        simp only
        unfold doA
        by_cases c4 : o.kind ≤ 4
        · rw [if_pos c4, if_pos c4]; exact ⟨rfl, h.set hn _ _⟩
        rw [if_neg c4, if_neg c4]
        by_cases c6 : o.kind ≤ 6
        · rw [if_pos c6, if_pos c6]; exact ⟨rfl, h.set hn _ _⟩
        rw [if_neg c6, if_neg c6]
        by_cases c7 : o.kind = 7
        · rw [if_pos c7, if_pos c7]; exact ⟨rfl, h⟩
        rw [if_neg c7, if_neg c7]
        by_cases c9 : o.kind ≤ 9
        · rw [if_pos c9, if_pos c9]; exact ⟨rfl, h.set hn _ _⟩
        rw [if_neg c9, if_neg c9]
        by_cases c10 : o.kind = 10
        · rw [if_pos c10, if_pos c10]; exact ⟨rfl, h.set hn _ _⟩
        rw [if_neg c10, if_neg c10]
        by_cases c11 : o.kind = 11
        · rw [if_pos c11, if_pos c11]; exact ⟨rfl, h⟩
        rw [if_neg c11, if_neg c11, h.iters]
        exact ⟨rfl, ⟨h.mask, rfl, h.maps⟩⟩
theorem mapEq_eqv {B B' : AFam} (h : EqvA B B') (hn : NdA B') : mapEqA B = mapEqA B' := by
  funext p
  unfold mapEqA
  rw [h.look hn]
theorem eqA_eqv {A A' B B' : AFam} (h : EqvA A A') (k : EqvA B B') (hn : NdA B') : eqA A B = eqA A' B' := by
  unfold eqA
  rw [h.mask, k.mask, h.iters, k.iters, mapEq_eqv k hn, h.maps.length_eq, k.maps.length_eq, h.maps.all_eq]
theorem NdA.eqv {A B : AFam} (h : EqvA A B) (hn : NdA B) : NdA A :=
  ⟨(h.maps.map (·.1)).nodup_iff.2 hn.maps, h.iters ▸ hn.iters, fun p hp => hn.vals p (h.maps.mem_iff.1 hp)⟩
theorem OkA.eqv {N : Nat} {A B : AFam} (h : EqvA A B) (hn : NdA B) (ok : OkA N B) : OkA N A :=
  ⟨h.mask ▸ ok.m0, h.mask ▸ ok.m1, fun p hp => ok.keys p (h.maps.mem_iff.1 hp), fun p hp => ok.lens p (h.maps.mem_iff.1 hp), h.iters ▸ ok.poss, fun p hp => by rw [h.look hn]; exact ok.nums p (h.iters ▸ hp), by rw [h.maps.length_eq]; exact ok.count⟩
/-- the number of iterators -/
theorem iters_apply (A : AFam) (t i : Int) (o : OpD) : (applyA A t i o).1.iters.length ≤ A.iters.length + 1 := by
  unfold applyA
  split
  · simp
  split
  · unfold nextA
    split
    · simp
    · split
      · simp
      · split
        · simp
        · exact aset_len _ _ _
  · split
    · simp
    · unfold doA
      repeat' split
      all_goals first | (simp only []; omega) | exact aset_len _ _ _
end Go.Proofs.YtbmoehndnbbhcaaGreatDoor
namespace Go.Proofs.YtbmoehndnbbhcaaGreatDoor
set_option linter.unusedVariables false
set_option linter.unusedSimpArgs false
open Go.RowKit Go.MapKept
def U64 (z : Int) : Prop := 0 ≤ z ∧ z ≤ 18446744073709551615
/-- the values of a family fit -/
def ValA (A : AFam) : Prop := ∀ p ∈ A.maps, ∀ q ∈ p.2.vals, U64 q.2
theorem ValA.set {A : AFam} (h : ValA A) (n : Int) (d : AMap) (hd : ∀ q ∈ d.vals, U64 q.2) : ValA { A with maps := aset A.maps n d } := fun p hp => by
  rcases aset_mem hp with rfl | hp
  · exact hd
  · exact h p hp
theorem ValA.apply {A : AFam} (h : ValA A) (t i : Int) (o : OpD) (ho : U64 o.value) : ValA (applyA A t i o).1 := by
  by_cases hz : refusalA A t i o = 0
  · obtain ⟨_, _, _, _, h13, hd⟩ := refusal_none hz
    by_cases hk : o.kind = 13
    · rw [applyA_next hz hk]
      unfold nextA
      split
      · exact h
      split
      · exact h
      split
      · exact h
      · exact h
    · obtain ⟨d, hd, _⟩ := hd hk
      rw [applyA_do hz hk hd]
      have hv := h _ (alook_mem hd)
      unfold doA
      split
      · refine h.set _ _ fun q hq => ?_
        simp only [setV] at hq
        split at hq
        · rcases aset_mem hq with rfl | hq
          · exact ho
          · exact hv q hq
        · exact hv q hq
      split
      · refine h.set _ _ fun q hq => ?_
        simp only [removeV] at hq
        split at hq
        · exact hv q (adel_mem hq)
        · exact hv q hq
      split
      · exact h
      split
      · exact h.set _ _ hv
      split
      · exact h.set _ _ (by simp)
      split
      · exact h
      · exact h
  · rw [applyA_err hz]; exact h
theorem refusal_range (A : AFam) (t i : Int) (o : OpD) : 0 ≤ refusalA A t i o ∧ refusalA A t i o ≤ 8 := by
  have hu : 0 ≤ unfitA A o ∧ unfitA A o ≤ 8 := by
    unfold unfitA unfitK
    split
    · omega
    · split
      · omega
      · split
        · split <;> omega
        · split
          · split <;> omega
          · omega
  unfold refusalA
  split
  · omega
  split
  · split
    · omega
    · split <;> omega
  split
  · exact hu
  · split <;> omega
theorem i64_of {z : Int} (h0 : 0 ≤ z) (h1 : z ≤ 1099511627776) : I64 z := ⟨by omega, by omega⟩
theorem res_fit {N : Nat} {A : AFam} (h : ValA A) (ok : OkA N A) (hN : N ≤ 1099511627776) (t i : Int) (o : OpD) : (applyA A t i o).2.full.Fit := by
  have z0 : I64 0 := i64_of (by omega) (by omega)
  have mk : ∀ r : ResD, I64 r.err → U64 r.value → r.key.size ≤ 64 → I64 r.count → r.full.Fit := fun r a b c d => ⟨a, b, by show r.key.size ≤ maxLen; unfold maxLen; omega, d, z0, z0⟩
  have u0 : U64 0 := ⟨by omega, by omega⟩
  have k0 : (⟨#[]⟩ : ByteArray).size ≤ 64 := by decide
  have hrr := refusal_range A t i o
  have look : ∀ (L : List (ByteArray × Int)) (k : ByteArray), (∀ q ∈ L, U64 q.2) → U64 ((alook L k).getD 0) := fun L k hL => by
    cases hk : alook L k with
    | none => exact u0
    | some v => exact hL _ (alook_mem hk)
  have one : ∀ b : Bool, I64 (if b then 1 else 0) := fun b => by cases b <;> exact i64_of (by simp) (by simp)
  by_cases hz : refusalA A t i o = 0
  · obtain ⟨_, _, _, _, h13, hd⟩ := refusal_none hz
    by_cases hk : o.kind = 13
    · rw [applyA_next hz hk]
      unfold nextA
      split
      · exact mk _ z0 u0 k0 z0
      split
      · exact mk _ z0 u0 k0 z0
      split
      · exact mk _ z0 u0 k0 z0
      · rename_i d hd hc
        have key : ∀ n : Nat, U64 ((sortedOf A.mask d.vals)[n]?.getD (⟨#[]⟩, 0)).2 ∧ ((sortedOf A.mask d.vals)[n]?.getD (⟨#[]⟩, 0)).1.size ≤ 64 := fun n => by
          cases hx : (sortedOf A.mask d.vals)[n]? with
          | none => exact ⟨u0, k0⟩
          | some x =>
            have hm := (sortedOf_perm A.mask d.vals).mem_iff.1 (List.mem_of_getElem? hx)
            exact ⟨h _ (alook_mem hd) x hm, ok.keys _ (alook_mem hd) x hm⟩
        exact mk _ z0 (key _).1 (key _).2 z0
    · obtain ⟨d, hd, _⟩ := hd hk
      rw [applyA_do hz hk hd]
      have hv := h _ (alook_mem hd)
      have hl := ok.lens _ (alook_mem hd)
      simp only at hl
      unfold doA
      split
      · exact mk _ z0 (look _ _ hv) k0 (one _)
      split
      · exact mk _ z0 (look _ _ hv) k0 (one _)
      split
      · exact mk _ z0 (look _ _ hv) k0 z0
      split
      · exact mk _ z0 u0 k0 z0
      split
      · exact mk _ z0 u0 k0 z0
      split
      · exact mk _ z0 u0 k0 (i64_of (by simp) (by simp; omega))
      · exact mk _ z0 u0 k0 z0
  · rw [applyA_err hz]
    exact mk _ (i64_of hrr.1 (Int.le_trans hrr.2 (by decide))) u0 k0 z0
/-- the operations fit -/
structure ValT (ts : List (List OpD)) : Prop where
  key : ∀ t ∈ ts, ∀ o ∈ t, o.key.size ≤ maxLen
  value : ∀ t ∈ ts, ∀ o ∈ t, U64 o.value
theorem playP_cons {ts : List (List OpD)} {l : List EvD} {A : AFam} {order : List OpP} {j : Nat} {a : OpP} (ha : order[j]? = some a) :
    playP ts l A (order.drop j) = ((match resultP l a with | none => true | some want => decide ((applyA A a.1 a.2 (opAt ts a)).2.full = want)) && playP ts l (applyA A a.1 a.2 (opAt ts a)).1 (order.drop (j + 1))) := by
  rw [List.drop_eq_getElem_cons (List.getElem?_eq_some_iff.1 ha).1, (List.getElem?_eq_some_iff.1 ha).2]
  rfl
theorem playP_none {ts : List (List OpD)} {l : List EvD} {A : AFam} {order : List OpP} {j : Nat} {a : OpP} (ha : order[j]? = some a) (hr : resultP l a = none) :
    playP ts l A (order.drop j) = playP ts l (applyA A a.1 a.2 (opAt ts a)).1 (order.drop (j + 1)) := by
  rw [playP_cons ha, hr]; rfl
theorem playP_good {ts : List (List OpD)} {l : List EvD} {A : AFam} {order : List OpP} {j : Nat} {a : OpP} {r : ResF} (ha : order[j]? = some a) (hr : resultP l a = some r) (h : (applyA A a.1 a.2 (opAt ts a)).2.full = r) :
    playP ts l A (order.drop j) = playP ts l (applyA A a.1 a.2 (opAt ts a)).1 (order.drop (j + 1)) := by
  rw [playP_cons ha, hr]; simp [h]
theorem playP_bad {ts : List (List OpD)} {l : List EvD} {A : AFam} {order : List OpP} {j : Nat} {a : OpP} {r : ResF} (ha : order[j]? = some a) (hr : resultP l a = some r) (h : (applyA A a.1 a.2 (opAt ts a)).2.full ≠ r) :
    playP ts l A (order.drop j) = false := by
  rw [playP_cons ha, hr]; simp [h]
theorem members_ex {ops : List Nat} {l : List EvD} {order : List OpP} (hp : ProperP ops l) (h : membersP l order = true) {a : OpP} (ha : a ∈ order) : ExP ops a := by
  unfold membersP at h
  rw [Bool.and_eq_true, List.all_eq_true] at h
  have := h.1 a ha
  simp only [Bool.and_eq_true, decide_eq_true_eq] at this
  exact hp.ex (mem_invoked.1 this.1.1)
end Go.Proofs.YtbmoehndnbbhcaaGreatDoor
namespace Go.Proofs.YtbmoehndnbbhcaaGreatDoor
set_option linter.unusedVariables false
set_option linter.unusedSimpArgs false
theorem nodup_le {α : Type} [DecidableEq α] : ∀ {L M : List α}, L.Nodup → (∀ a ∈ L, a ∈ M) → L.length ≤ M.length
  | [], M, _, _ => Nat.zero_le _
  | a :: r, M, hn, hs => by
    have hn' := List.nodup_cons.1 hn
    have ha := hs a (.head _)
    have := nodup_le (M := M.erase a) hn'.2 fun b hb => by
      have hne : b ≠ a := fun e => hn'.1 (e ▸ hb)
      exact (List.mem_erase_of_ne hne).2 (hs b (.tail _ hb))
    rw [List.length_erase_of_mem ha] at this
    have hpos := List.length_pos_of_mem ha
    simp only [List.length_cons]
    omega
def rowT (t n : Nat) : List OpP := (List.range n).map fun (i : Nat) => ((t : Int), (i : Int))
def lenN (ts : List (List OpD)) (i : Nat) : Nat := (ts[i]?.getD []).length
def allT (ts : List (List OpD)) : Nat → List OpP
  | 0 => []
  | t + 1 => allT ts t ++ rowT t (lenN ts t)
theorem mem_rowT {t n : Nat} {a : OpP} : a ∈ rowT t n ↔ ∃ i, i < n ∧ a = ((t : Int), (i : Int)) := by
  unfold rowT
  rw [List.mem_map]
  exact ⟨fun ⟨i, hi, e⟩ => ⟨i, by simpa using hi, e.symm⟩, fun ⟨i, hi, e⟩ => ⟨i, by simpa using hi, e.symm⟩⟩
theorem mem_allT {ts : List (List OpD)} : ∀ {T : Nat} {a : OpP}, a ∈ allT ts T ↔ ∃ t i, t < T ∧ i < lenN ts t ∧ a = ((t : Int), (i : Int))
  | 0, a => by simp [allT]
  | T + 1, a => by
    rw [allT, List.mem_append, mem_allT, mem_rowT]
    constructor
    · rintro (⟨t, i, h1, h2, e⟩ | ⟨i, h, e⟩)
      · exact ⟨t, i, by omega, h2, e⟩
      · exact ⟨T, i, by omega, h, e⟩
    · rintro ⟨t, i, h1, h2, e⟩
      by_cases ht : t = T
      · subst ht; exact Or.inr ⟨i, h2, e⟩
      · exact Or.inl ⟨t, i, by omega, h2, e⟩
theorem nodup_rowT (t n : Nat) : (rowT t n).Nodup := by
  unfold rowT List.Nodup
  rw [List.pairwise_map]
  refine List.Pairwise.imp ?_ List.nodup_range
  intro a b hab e
  simp only [Prod.mk.injEq] at e
  exact hab (by omega)
theorem nodup_allT (ts : List (List OpD)) : ∀ T, (allT ts T).Nodup
  | 0 => List.nodup_nil
  | T + 1 => by
    rw [allT, List.nodup_append]
    refine ⟨nodup_allT ts T, nodup_rowT _ _, fun a ha b hb e => ?_⟩
    obtain ⟨t, i, h1, h2, rfl⟩ := mem_allT.1 ha
    obtain ⟨j, _, rfl⟩ := mem_rowT.1 hb
    simp only [Prod.mk.injEq] at e
    omega
def goodC (l : List EvD) (a : OpP) : Bool := decide (whenP l a false ≠ -1) && !refusedP l a
/-- the candidates before an operation -/
def candT (ts : List (List OpD)) (l : List EvD) (T I : Nat) : List OpP := (allT ts T ++ rowT T I).filter (goodC l)
def candsP (ts : List (List OpD)) (l : List EvD) : List OpP := candT ts l ts.length 0
theorem candT_succ (ts : List (List OpD)) (l : List EvD) (T I : Nat) : candT ts l T (I + 1) = candT ts l T I ++ (if goodC l ((T : Int), (I : Int)) then [((T : Int), (I : Int))] else []) := by
  unfold candT rowT
  rw [List.range_succ, List.map_append, ← List.append_assoc, List.filter_append]
  cases h : goodC l ((T : Int), (I : Int)) <;> simp [h]
theorem candT_next (ts : List (List OpD)) (l : List EvD) (T : Nat) : candT ts l T (lenN ts T) = candT ts l (T + 1) 0 := by
  unfold candT
  rw [allT, show rowT (T + 1) 0 = [] from rfl, List.append_nil]
theorem candT_sub {ts : List (List OpD)} {l : List EvD} {T I : Nat} {a : OpP} (h : a ∈ candT ts l T I) : goodC l a = true := (List.mem_filter.1 h).2
theorem candT_nodup (ts : List (List OpD)) (l : List EvD) (T I : Nat) : (candT ts l T I).Nodup := by
  unfold candT
  refine List.Pairwise.filter _ ?_
  show (allT ts T ++ rowT T I).Nodup
  rw [List.nodup_append]
  refine ⟨nodup_allT ts T, nodup_rowT _ _, fun a ha b hb e => ?_⟩
  obtain ⟨t, i, h1, h2, rfl⟩ := mem_allT.1 ha
  obtain ⟨j, _, rfl⟩ := mem_rowT.1 hb
  simp only [Prod.mk.injEq] at e
  omega
theorem goodC_inv {l : List EvD} {a : OpP} (h : goodC l a = true) : a ∈ invokedP l := by
  unfold goodC at h
  rw [Bool.and_eq_true, decide_eq_true_eq] at h
  exact mem_invoked.2 h.1
theorem candT_len (ts : List (List OpD)) (l : List EvD) (T I : Nat) : (candT ts l T I).length ≤ (invokedP l).length :=
  nodup_le (candT_nodup ts l T I) fun a ha => goodC_inv (candT_sub ha)
theorem cands_mem {ts : List (List OpD)} {l : List EvD} {a : OpP} (h : a ∈ candsP ts l) : ExP (lens ts) a ∧ goodC l a = true := by
  refine ⟨?_, candT_sub h⟩
  unfold candsP candT at h
  rw [show rowT ts.length 0 = [] from rfl, List.append_nil] at h
  obtain ⟨t, i, h1, h2, rfl⟩ := mem_allT.1 (List.mem_filter.1 h).1
  have ht : ts[t]? = some ts[t] := List.getElem?_eq_getElem h1
  refine ⟨by simp only; omega, by simp only; omega, ?_⟩
  show (i : Int) < (((lens ts)[((t : Nat) : Int).toNat]?.getD 0 : Nat) : Int)
  rw [Int.toNat_natCast, lens_get ht, Option.getD_some]
  unfold lenN at h2
  rw [ht, Option.getD_some] at h2
  omega
/-- a set of bits -/
def bitsB (f : Nat → Bool) : Nat → Nat
  | 0 => 0
  | n + 1 => if f n then bitsB f n ||| 2 ^ n else bitsB f n
theorem bitsB_lt (f : Nat → Bool) : ∀ n, bitsB f n < 2 ^ n
  | 0 => by simp [bitsB]
  | n + 1 => by
    have := bitsB_lt f n
    unfold bitsB
    split
    · exact Nat.or_lt_two_pow (Nat.lt_of_lt_of_le this (Nat.pow_le_pow_right (by omega) (by omega))) (Nat.pow_lt_pow_right (by omega) (by omega))
    · exact Nat.lt_of_lt_of_le this (Nat.pow_le_pow_right (by omega) (by omega))
theorem bitsB_32 (f : Nat → Bool) {n : Nat} (h : n ≤ 32) : bitsB f n < 4294967296 := Nat.lt_of_lt_of_le (bitsB_lt f n) (Nat.pow_le_pow_right (n := 2) (by omega) h)
end Go.Proofs.YtbmoehndnbbhcaaGreatDoor
