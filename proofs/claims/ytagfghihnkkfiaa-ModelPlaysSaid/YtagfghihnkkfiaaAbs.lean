/- Families as plain data, without addresses: what an operation does. No walk in sight. -/
import Derived.Test.YtagfghihnkkfiaaFamB
import Derived.Test.YtagfghihnkkfiaaModD
namespace Go.Proofs.Ytagfghihnkkfiaa
set_option linter.unusedVariables false
set_option linter.unusedSimpArgs false
open Go.RowKit Go.MapKept
/-- the pairs of a map in the order of their keys -/
def sortedOf (m : Int) (L : List (ByteArray × Int)) : List (ByteArray × Int) := L.mergeSort (fun a b => !ltP m b a)
theorem sortedOf_perm (m : Int) (L : List (ByteArray × Int)) : (sortedOf m L).Perm L := List.mergeSort_perm L _
theorem sortedOf_length (m : Int) (L : List (ByteArray × Int)) : (sortedOf m L).length = L.length := (sortedOf_perm m L).length_eq
structure AMap where
  vals : List (ByteArray × Int)
  ro : Bool
structure AFam where
  mask : Int
  maps : List (Int × AMap)
  iters : List (Int × IterD)
def MapD.abs (d : MapD) : AMap := ⟨d.vals, d.ro⟩
def amap {β γ : Type} (f : β → γ) (L : List (Int × β)) : List (Int × γ) := L.map (fun p => (p.1, f p.2))
def FamD.abs (F : FamD) : AFam := ⟨F.mask, amap MapD.abs F.maps, F.iters⟩
theorem alook_amap {β γ : Type} (f : β → γ) (L : List (Int × β)) (k : Int) : alook (amap f L) k = (alook L k).map f := by
  induction L with
  | nil => rfl
  | cons p r ih =>
    obtain ⟨a, b⟩ := p
    by_cases h : a = k
    · simp [amap, alook, h]
    · have : alook (amap f ((a, b) :: r)) k = alook (amap f r) k := by simp [amap, alook, h]
      rw [this, ih]
      simp [alook, h]
theorem aset_amap {β γ : Type} (f : β → γ) (L : List (Int × β)) (k : Int) (v : β) : aset (amap f L) k (f v) = amap f (aset L k v) := by
  induction L with
  | nil => rfl
  | cons p r ih =>
    obtain ⟨a, b⟩ := p
    by_cases h : a = k
    · simp [amap, aset, h]
    · have h1 : aset (amap f ((a, b) :: r)) k (f v) = (a, f b) :: aset (amap f r) k (f v) := by simp [amap, aset, h]
      have h2 : aset ((a, b) :: r) k v = (a, b) :: aset r k v := by simp [aset, h]
      rw [h1, ih, h2]
      rfl
theorem alook_aset_self {κ β : Type} [DecidableEq κ] (L : List (κ × β)) (k : κ) (v : β) : alook (aset L k v) k = some v := by
  induction L with
  | nil => simp [aset, alook]
  | cons p r ih =>
    obtain ⟨a, b⟩ := p
    by_cases h : a = k
    · simp [aset, alook, h]
    · simp [aset, alook, h, ih]
theorem alook_aset_ne {κ β : Type} [DecidableEq κ] (L : List (κ × β)) (k q : κ) (v : β) (hq : q ≠ k) : alook (aset L k v) q = alook L q := by
  induction L with
  | nil => simp [aset, alook, Ne.symm hq]
  | cons p r ih =>
    obtain ⟨a, b⟩ := p
    by_cases h : a = k
    · subst h
      simp [aset, alook, Ne.symm hq]
    · simp [aset, alook, h, ih]
theorem alook_adel_ne {κ β : Type} [DecidableEq κ] (L : List (κ × β)) (k q : κ) (hq : q ≠ k) : alook (adel L k) q = alook L q := by
  induction L with
  | nil => simp [adel]
  | cons p r ih =>
    obtain ⟨a, b⟩ := p
    by_cases h : a = k
    · subst h
      simp [adel, alook, Ne.symm hq]
    · simp [adel, alook, h, ih]
theorem alook_adel_self {κ β : Type} [DecidableEq κ] (L : List (κ × β)) (k : κ) (hn : (L.map (·.1)).Nodup) : alook (adel L k) k = none := by
  induction L with
  | nil => simp [adel, alook]
  | cons p r ih =>
    obtain ⟨a, b⟩ := p
    simp only [List.map_cons, List.nodup_cons] at hn
    by_cases h : a = k
    · subst h
      simp only [adel, if_true]
      exact alook_none fun q hq e => hn.1 (e ▸ List.mem_map.2 ⟨q, hq, rfl⟩)
    · simp [adel, alook, h, ih hn.2]
theorem aset_mem' {κ β : Type} [DecidableEq κ] {L : List (κ × β)} {n : κ} {d : β} {p : κ × β} (h : p ∈ aset L n d) : p = (n, d) ∨ p ∈ L := aset_mem h
theorem adel_mem {κ β : Type} [DecidableEq κ] {L : List (κ × β)} {n : κ} {p : κ × β} (h : p ∈ adel L n) : p ∈ L := by
  induction L with
  | nil => simp [adel] at h
  | cons q r ih =>
    obtain ⟨a, b⟩ := q
    by_cases ha : a = n
    · simp [adel, ha] at h
      exact .tail _ h
    · simp [adel, ha] at h
      rcases h with h | h
      · exact h ▸ .head _
      · exact .tail _ (ih h)
theorem aset_len {κ β : Type} [DecidableEq κ] (L : List (κ × β)) (n : κ) (d : β) : (aset L n d).length ≤ L.length + 1 := by
  induction L with
  | nil => simp [aset]
  | cons q r ih =>
    obtain ⟨a, b⟩ := q
    by_cases ha : a = n
    · simp [aset, ha]
    · simp [aset, ha]; omega
theorem aset_len_old {κ β : Type} [DecidableEq κ] (L : List (κ × β)) (n : κ) (d e : β) (h : alook L n = some e) : (aset L n d).length = L.length := by
  induction L with
  | nil => simp [alook] at h
  | cons q r ih =>
    obtain ⟨a, b⟩ := q
    by_cases ha : a = n
    · simp [aset, ha]
    · simp only [alook, if_neg ha] at h
      simp [aset, ha, ih h]
theorem adel_len {κ β : Type} [DecidableEq κ] (L : List (κ × β)) (n : κ) : (adel L n).length ≤ L.length := by
  induction L with
  | nil => simp [adel]
  | cons q r ih =>
    obtain ⟨a, b⟩ := q
    by_cases ha : a = n
    · simp [adel, ha]
    · simp [adel, ha]; omega
theorem aset_isSome {κ β : Type} [DecidableEq κ] (L : List (κ × β)) (n k : κ) (d : β) (h : (alook L k).isSome = true) : (alook (aset L n d) k).isSome = true := by
  by_cases hk : k = n
  · subst hk; rw [alook_aset_self]; rfl
  · rw [alook_aset_ne _ _ _ _ hk]; exact h
/-! ### the operations -/
def unfitA (A : AFam) (o : OpD) : Int :=
  match alook A.maps o.handle with
  | none => 5
  | some d => unfitK o.kind o.key d.ro
def takenA (A : AFam) (n : Int) : Bool := (alook A.maps n).isSome || (alook A.iters n).isSome
def lostA (A : AFam) (t : Int) (h : Int) : Bool :=
  match alook A.iters h with
  | none => true
  | some it => it.thread != t
def refusalA (A : AFam) (t i : Int) (o : OpD) : Int :=
  if numberOf t i < 0 ∨ o.kind < 1 ∨ 13 < o.kind then 1
  else if o.kind == 13 then (if lostA A t o.handle then 5 else if takenA A (numberOf t i) then 8 else 0)
  else if unfitA A o != 0 then unfitA A o
  else if takenA A (numberOf t i) then 8 else 0
theorem unfit_abs (F : FamD) (o : OpD) : unfitD F o = unfitA F.abs o := by
  unfold unfitD unfitA FamD.abs
  simp only [alook_amap]
  cases alook F.maps o.handle <;> rfl
theorem taken_abs (F : FamD) (n : Int) : takenD F n = takenA F.abs n := by
  unfold takenD takenA FamD.abs
  simp only [alook_amap, Option.isSome_map]
theorem refusal_abs (F : FamD) (t i : Int) (o : OpD) : refusalD F t i o = refusalA F.abs t i o := by
  unfold refusalD refusalA
  rw [unfit_abs, taken_abs]
  rfl
def nextA (A : AFam) (n : Int) : AFam × ResD :=
  match alook A.iters n with
  | none => (A, {})
  | some it =>
    match alook A.maps it.number with
    | none => (A, {})
    | some d =>
      if (d.vals.length : Int) ≤ it.pos then (A, {})
      else ({ A with iters := aset A.iters n { it with pos := it.pos + 1 } }, { found := true, key := ((sortedOf A.mask d.vals)[it.pos.toNat]?.getD (⟨#[]⟩, 0)).1, value := ((sortedOf A.mask d.vals)[it.pos.toNat]?.getD (⟨#[]⟩, 0)).2 })
def doA (A : AFam) (t i : Int) (o : OpD) (d : AMap) : AFam × ResD :=
  if o.kind ≤ 4 then ({ A with maps := aset A.maps o.handle ⟨setV d.vals o, d.ro⟩ }, setR d.vals o)
  else if o.kind ≤ 6 then ({ A with maps := aset A.maps o.handle ⟨removeV d.vals o, d.ro⟩ }, removeR d.vals o)
  else if o.kind = 7 then (A, { found := (alook d.vals o.key).isSome, value := (alook d.vals o.key).getD 0 })
  else if o.kind ≤ 9 then ({ A with maps := aset A.maps (numberOf t i) ⟨d.vals, o.kind == 9⟩ }, { found := true })
  else if o.kind = 10 then ({ A with maps := aset A.maps o.handle ⟨[], d.ro⟩ }, { found := true })
  else if o.kind = 11 then (A, { count := d.vals.length })
  else ({ A with iters := aset A.iters (numberOf t i) ⟨t, o.handle, 0⟩ }, { found := true })
def applyA (A : AFam) (t i : Int) (o : OpD) : AFam × ResD :=
  if refusalA A t i o ≠ 0 then (A, { err := refusalA A t i o })
  else if o.kind = 13 then nextA A o.handle
  else
    match alook A.maps o.handle with
    | none => (A, {})
    | some d => doA A t i o d
theorem applyA_err {A : AFam} {t i : Int} {o : OpD} (h : refusalA A t i o ≠ 0) : applyA A t i o = (A, { err := refusalA A t i o }) := if_pos h
theorem applyA_do {A : AFam} {t i : Int} {o : OpD} {d : AMap} (h : refusalA A t i o = 0) (hk : o.kind ≠ 13) (hd : alook A.maps o.handle = some d) : applyA A t i o = doA A t i o d := by
  unfold applyA
  rw [if_neg (by rw [h]; simp), if_neg hk, hd]
theorem applyA_next {A : AFam} {t i : Int} {o : OpD} (h : refusalA A t i o = 0) (hk : o.kind = 13) : applyA A t i o = nextA A o.handle := by
  unfold applyA
  rw [if_neg (by rw [h]; simp), if_pos hk]
/-- what a permitted operation finds -/
theorem refusal_none {A : AFam} {t i : Int} {o : OpD} (h : refusalA A t i o = 0) :
    0 ≤ numberOf t i ∧ 1 ≤ o.kind ∧ o.kind ≤ 13 ∧ takenA A (numberOf t i) = false ∧ (o.kind = 13 → ∃ it, alook A.iters o.handle = some it ∧ it.thread = t) ∧
    (o.kind ≠ 13 → ∃ d, alook A.maps o.handle = some d ∧ unfitK o.kind o.key d.ro = 0) := by
  unfold refusalA at h
  by_cases h1 : numberOf t i < 0 ∨ o.kind < 1 ∨ 13 < o.kind
  · rw [if_pos h1] at h; exact absurd h (by decide)
  rw [if_neg h1] at h
  refine ⟨by omega, by omega, by omega, ?_⟩
  by_cases hk : o.kind = 13
  · have hb : (o.kind == 13) = true := by simp [hk]
    rw [if_pos hb] at h
    cases hl : lostA A t o.handle with
    | true => rw [hl] at h; simp at h
    | false =>
      rw [hl] at h
      cases ht : takenA A (numberOf t i) with
      | true => rw [ht] at h; simp at h
      | false =>
        refine ⟨rfl, fun _ => ?_, fun hh => absurd hk hh⟩
        unfold lostA at hl
        cases hi : alook A.iters o.handle with
        | none => rw [hi] at hl; simp at hl
        | some it => rw [hi] at hl; exact ⟨it, rfl, by simpa using hl⟩
  · have hb : ¬ (o.kind == 13) = true := by simp [hk]
    rw [if_neg hb] at h
    by_cases hu : unfitA A o = 0
    · rw [if_neg (by simp [hu])] at h
      cases ht : takenA A (numberOf t i) with
      | true => rw [ht] at h; simp at h
      | false =>
        refine ⟨rfl, fun hh => absurd hh hk, fun _ => ?_⟩
        unfold unfitA at hu
        cases hd : alook A.maps o.handle with
        | none => rw [hd] at hu; simp at hu
        | some d => rw [hd] at hu; exact ⟨d, rfl, hu⟩
    · rw [if_pos (by simp [hu])] at h
      exact absurd h hu
theorem unfitK_key {kind : Int} {key : ByteArray} {ro : Bool} (h : unfitK kind key ro = 0) (hk : kind ≤ 7) : key.size ≤ 64 := by
  unfold unfitK at h
  by_cases hc : kind ≤ 7 ∧ ¬ (key.size : Int) ≤ 64
  · rw [if_pos hc] at h; exact absurd h (by decide)
  · omega
/-! ### the bounds -/
structure OkA (N : Nat) (A : AFam) : Prop where
  m0 : 0 ≤ A.mask
  m1 : A.mask ≤ 18446744073709551615
  keys : ∀ p ∈ A.maps, ∀ q ∈ p.2.vals, q.1.size ≤ 64
  lens : ∀ p ∈ A.maps, p.2.vals.length ≤ N
  poss : ∀ p ∈ A.iters, 0 ≤ p.2.pos ∧ p.2.pos ≤ N
  nums : ∀ p ∈ A.iters, (alook A.maps p.2.number).isSome = true
  count : A.maps.length ≤ N
theorem OkA.more {N M : Nat} {A : AFam} (h : OkA N A) (hm : N ≤ M) : OkA M A :=
  ⟨h.m0, h.m1, h.keys, fun p hp => Nat.le_trans (h.lens p hp) hm, fun p hp => ⟨(h.poss p hp).1, by have := (h.poss p hp).2; omega⟩, h.nums, Nat.le_trans h.count hm⟩
theorem OkA.set_maps {N : Nat} {A : AFam} (h : OkA N A) (n : Int) (d : AMap) (hk : ∀ q ∈ d.vals, q.1.size ≤ 64) (hl : d.vals.length ≤ N + 1) : OkA (N + 1) { A with maps := aset A.maps n d } := by
  refine ⟨h.m0, h.m1, fun p hp => ?_, fun p hp => ?_, fun p hp => ?_, fun p hp => aset_isSome _ _ _ _ (h.nums p hp), ?_⟩
  · rcases aset_mem hp with rfl | hp
    · exact hk
    · exact h.keys p hp
  · rcases aset_mem hp with rfl | hp
    · exact hl
    · exact Nat.le_trans (h.lens p hp) (by omega)
  · exact ⟨(h.poss p hp).1, by have := (h.poss p hp).2; omega⟩
  · have := aset_len A.maps n d
    have := h.count
    show (aset A.maps n d).length ≤ N + 1
    omega
theorem OkA.set_iters {N : Nat} {A : AFam} (h : OkA N A) (n : Int) (it : IterD) (h0 : 0 ≤ it.pos) (h1 : it.pos ≤ N + 1) (hn : (alook A.maps it.number).isSome = true) : OkA (N + 1) { A with iters := aset A.iters n it } := by
  refine ⟨h.m0, h.m1, h.keys, fun p hp => Nat.le_trans (h.lens p hp) (by omega), fun p hp => ?_, fun p hp => ?_, Nat.le_trans h.count (by omega)⟩
  · rcases aset_mem hp with rfl | hp
    · exact ⟨h0, by show it.pos ≤ ((N + 1 : Nat) : Int); omega⟩
    · exact ⟨(h.poss p hp).1, by have := (h.poss p hp).2; omega⟩
  · rcases aset_mem hp with rfl | hp
    · exact hn
    · exact h.nums p hp
theorem OkA.apply {N : Nat} {A : AFam} (h : OkA N A) (t i : Int) (o : OpD) : OkA (N + 1) (applyA A t i o).1 := by
  by_cases hz : refusalA A t i o = 0
  · obtain ⟨_, k1, k2, ht, h13, hd⟩ := refusal_none hz
    by_cases hk : o.kind = 13
    · obtain ⟨it, hi, _⟩ := h13 hk
      rw [applyA_next hz hk]
      have hp := h.poss _ (alook_mem hi)
      have hn := h.nums _ (alook_mem hi)
      unfold nextA
      rw [hi]
      simp only at hp hn ⊢
      cases hm : alook A.maps it.number with
      | none => exact h.more (by omega)
      | some d =>
        simp only
        by_cases hc : (d.vals.length : Int) ≤ it.pos
        · rw [if_pos hc]; exact h.more (by omega)
        · rw [if_neg hc]
          exact h.set_iters _ _ (by show 0 ≤ it.pos + 1; omega) (by show it.pos + 1 ≤ (N : Int) + 1; omega) (by show (alook A.maps it.number).isSome = true; rw [hm]; rfl)
    · obtain ⟨d, hd, hu⟩ := hd hk
      rw [applyA_do hz hk hd]
      have hkeys := h.keys _ (alook_mem hd)
      have hlen := h.lens _ (alook_mem hd)
      simp only at hkeys hlen
      unfold doA
      by_cases c4 : o.kind ≤ 4
      · rw [if_pos c4]
        have h64 := unfitK_key hu (by omega)
        refine h.set_maps _ _ (fun q hq => ?_) ?_
        · simp only [setV] at hq
          split at hq
          · rcases aset_mem hq with rfl | hq
            · exact h64
            · exact hkeys q hq
          · exact hkeys q hq
        · simp only [setV]
          split
          · have := aset_len d.vals o.key o.value; omega
          · omega
      rw [if_neg c4]
      by_cases c6 : o.kind ≤ 6
      · rw [if_pos c6]
        refine h.set_maps _ _ (fun q hq => ?_) ?_
        · simp only [removeV] at hq
          split at hq
          · exact hkeys q (adel_mem hq)
          · exact hkeys q hq
        · simp only [removeV]
          split
          · have := adel_len d.vals o.key; omega
          · omega
      rw [if_neg c6]
      by_cases c7 : o.kind = 7
      · rw [if_pos c7]; exact h.more (by omega)
      rw [if_neg c7]
      by_cases c9 : o.kind ≤ 9
      · rw [if_pos c9]; exact h.set_maps _ _ hkeys (by simp only; omega)
      rw [if_neg c9]
      by_cases c10 : o.kind = 10
      · rw [if_pos c10]; exact h.set_maps _ _ (by simp) (by simp)
      rw [if_neg c10]
      by_cases c11 : o.kind = 11
      · rw [if_pos c11]; exact h.more (by omega)
      rw [if_neg c11]
      exact h.set_iters _ _ (by simp) (by simp only; omega) (by simp only; rw [hd]; rfl)
  · rw [applyA_err hz]; exact h.more (by omega)
end Go.Proofs.Ytagfghihnkkfiaa
