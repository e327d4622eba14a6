/- The reference's family as plain data; it agrees with the program's. No walk in sight. The reference's operations on plain data, and that they agree with the program's. No walk in sight. An operation on the reference's family gives what it gives on the program's; the comparison of families. No walk in sight. -/
import Derived.Test.YtbmoehndnbbhcaaGreatDoorMLtP
namespace Go.Proofs.YtbmoehndnbbhcaaGreatDoor
set_option linter.unusedVariables false
set_option linter.unusedSimpArgs false
open Go.RowKit Go.MapKept
abbrev PL := List (ByteArray × Int)
/-! ### lists of pairs in order -/
def withoutR (l : PL) (k : ByteArray) : PL := l.filter (fun p => decide (p.1 ≠ k))
def putR (m : Int) (l : PL) (k : ByteArray) (v : Int) : PL :=
  (withoutR l k).takeWhile (fun p => ltP m p (k, v)) ++ (k, v) :: (withoutR l k).dropWhile (fun p => ltP m p (k, v))
/-- in strict order -/
def Ord (m : Int) (l : PL) : Prop := l.Pairwise (fun a b => ltP m a b = true)
theorem ltP_key (m : Int) (x : ByteArray × Int) (k : ByteArray) (v v' : Int) : ltP m x (k, v) = ltP m x (k, v') := rfl
theorem sortedOf_ord {m : Int} {L : PL} (hn : (L.map (·.1)).Nodup) : Ord m (sortedOf m L) := by
  have hs := sortedOf_sorted m L
  have hnn : ((sortedOf m L).map (·.1)).Nodup := ((sortedOf_perm m L).map (·.1)).nodup_iff.2 hn
  have hd : (sortedOf m L).Pairwise (fun a b => a.1 ≠ b.1) := List.pairwise_map.1 (List.nodup_iff_pairwise_ne.1 hnn)
  refine (hs.and hd).imp ?_
  rintro a b ⟨h1, h2⟩
  cases h : ltP m a b with
  | true => rfl
  | false => exact absurd (ltP_total h h1) h2
theorem ord_uniq {m : Int} {l l' : PL} (h : Ord m l) (h' : Ord m l') (hp : l.Perm l') : l = l' := by
  refine List.Perm.eq_of_pairwise (le := fun a b => ltP m a b = true) (fun a b _ _ h1 h2 => ?_) h h' hp
  have := ltP_asymm h1
  rw [h2] at this
  exact absurd this (by decide)
theorem ord_sorted {m : Int} {l L : PL} (h : Ord m l) (hn : (L.map (·.1)).Nodup) (hp : l.Perm L) : l = sortedOf m L :=
  ord_uniq h (sortedOf_ord hn) (hp.trans (sortedOf_perm m L).symm)
theorem without_ord {m : Int} {l : PL} (h : Ord m l) (k : ByteArray) : Ord m (withoutR l k) := List.Pairwise.filter _ h
theorem without_mem {l : PL} {k : ByteArray} {p : ByteArray × Int} (h : p ∈ withoutR l k) : p ∈ l ∧ p.1 ≠ k := by
  have := List.mem_filter.1 h
  exact ⟨this.1, by simpa using this.2⟩
theorem take_lt {α : Type} (q : α → Bool) (l : List α) : ∀ x ∈ l.takeWhile q, q x = true := by
  induction l with
  | nil => intro x hx; simp at hx
  | cons a r ih =>
    intro x hx
    by_cases ha : q a = true
    · rw [List.takeWhile_cons_of_pos ha] at hx
      rcases List.mem_cons.1 hx with rfl | hx
      · exact ha
      · exact ih x hx
    · rw [List.takeWhile_cons_of_neg (by simpa using ha)] at hx
      simp at hx
theorem drop_ge {m : Int} {l : PL} (h : Ord m l) (y : ByteArray × Int) : ∀ x ∈ l.dropWhile (fun p => ltP m p y), ltP m x y = false := by
  induction l with
  | nil => intro x hx; simp at hx
  | cons a r ih =>
    have h' := List.pairwise_cons.1 h
    intro x hx
    by_cases ha : ltP m a y = true
    · rw [List.dropWhile_cons_of_pos (p := fun p => ltP m p y) ha] at hx
      exact ih h'.2 x hx
    · rw [List.dropWhile_cons_of_neg (p := fun p => ltP m p y) (by simpa using ha)] at hx
      rcases List.mem_cons.1 hx with rfl | hx
      · simpa using ha
      · cases hxy : ltP m x y with
        | false => rfl
        | true => exact absurd (ltP_trans (h'.1 x hx) hxy) ha
theorem put_ord {m : Int} {l : PL} (h : Ord m l) (k : ByteArray) (v : Int) : Ord m (putR m l k v) := by
  have hw := without_ord h k
  unfold putR
  refine List.pairwise_append.2 ⟨hw.sublist (List.takeWhile_sublist _), List.pairwise_cons.2 ⟨fun x hx => ?_, hw.sublist (List.dropWhile_sublist _)⟩, fun a ha b hb => ?_⟩
  · have hg := drop_ge hw (k, v) x hx
    cases hk : ltP m (k, v) x with
    | true => rfl
    | false =>
      have := ltP_total hk hg
      exact absurd this.symm (without_mem ((List.dropWhile_sublist _).subset hx)).2
  · rcases List.mem_cons.1 hb with rfl | hb
    · exact take_lt _ _ a ha
    · have h1 := take_lt _ _ a ha
      have h2 := drop_ge hw (k, v) b hb
      cases hk : ltP m (k, v) b with
      | true => exact ltP_trans h1 hk
      | false =>
        have := ltP_total hk h2
        exact absurd this.symm (without_mem ((List.dropWhile_sublist _).subset hb)).2
theorem put_perm (m : Int) (l : PL) (k : ByteArray) (v : Int) : (putR m l k v).Perm ((k, v) :: withoutR l k) := by
  unfold putR
  refine List.perm_middle.trans ?_
  rw [List.takeWhile_append_dropWhile]
theorem nodup_key {L : PL} (hn : (L.map (·.1)).Nodup) {k : ByteArray} {v v' : Int} (h : (k, v) ∈ L) (h' : (k, v') ∈ L) : v = v' := by
  induction L with
  | nil => simp at h
  | cons p r ih =>
    simp only [List.map_cons, List.nodup_cons] at hn
    rcases List.mem_cons.1 h with e | g <;> rcases List.mem_cons.1 h' with e' | g'
    · rw [← e] at e'
      exact (Prod.mk.inj e').2.symm
    · exact absurd (List.mem_map.2 ⟨(k, v'), g', by rw [← e]⟩) hn.1
    · exact absurd (List.mem_map.2 ⟨(k, v), g, by rw [← e']⟩) hn.1
    · exact ih hn.2 g g'
theorem without_none {L : PL} {k : ByteArray} (h : ∀ p ∈ L, p.1 ≠ k) : withoutR L k = L := List.filter_eq_self.2 fun p hp => by simpa using h p hp
theorem aset_perm {L : PL} (hn : (L.map (·.1)).Nodup) (k : ByteArray) (v : Int) : (aset L k v).Perm ((k, v) :: withoutR L k) := by
  induction L with
  | nil => exact List.Perm.refl _
  | cons p r ih =>
    obtain ⟨a, b⟩ := p
    simp only [List.map_cons, List.nodup_cons] at hn
    by_cases h : a = k
    · subst h
      have hr : withoutR r a = r := without_none fun p hp e => hn.1 (e ▸ List.mem_map.2 ⟨p, hp, rfl⟩)
      have : withoutR ((a, b) :: r) a = r := by rw [← hr]; simp [withoutR]
      rw [this]
      simp [aset]
    · have h1 : withoutR ((a, b) :: r) k = (a, b) :: withoutR r k := by simp [withoutR, h]
      have h2 : aset ((a, b) :: r) k v = (a, b) :: aset r k v := by simp [aset, h]
      rw [h1, h2]
      exact ((ih hn.2).cons _).trans (List.Perm.swap _ _ _)
theorem adel_without {L : PL} (hn : (L.map (·.1)).Nodup) (k : ByteArray) : adel L k = withoutR L k := by
  induction L with
  | nil => rfl
  | cons p r ih =>
    obtain ⟨a, b⟩ := p
    simp only [List.map_cons, List.nodup_cons] at hn
    by_cases h : a = k
    · subst h
      have hr : withoutR r a = r := without_none fun p hp e => hn.1 (e ▸ List.mem_map.2 ⟨p, hp, rfl⟩)
      rw [show withoutR ((a, b) :: r) a = withoutR r a by simp [withoutR], hr]
      simp [adel]
    · rw [show withoutR ((a, b) :: r) k = (a, b) :: withoutR r k by simp [withoutR, h], ← ih hn.2]
      simp [adel, h]
theorem without_perm {l L : PL} (h : l.Perm L) (k : ByteArray) : (withoutR l k).Perm (withoutR L k) := h.filter _
theorem aset_nodup {κ β : Type} [DecidableEq κ] {L : List (κ × β)} (hn : (L.map (·.1)).Nodup) (k : κ) (v : β) : ((aset L k v).map (·.1)).Nodup := by
  induction L with
  | nil => simp [aset]
  | cons p r ih =>
    obtain ⟨a, b⟩ := p
    simp only [List.map_cons, List.nodup_cons] at hn
    by_cases h : a = k
    · subst h
      simpa [aset] using hn
    · have h2 : aset ((a, b) :: r) k v = (a, b) :: aset r k v := by simp [aset, h]
      rw [h2, List.map_cons, List.nodup_cons]
      refine ⟨fun hm => ?_, ih hn.2⟩
      obtain ⟨q, hq, e⟩ := List.mem_map.1 hm
      rcases aset_mem hq with rfl | hq
      · exact h e.symm
      · exact hn.1 (List.mem_map.2 ⟨q, hq, e⟩)
theorem adel_nodup {κ β : Type} [DecidableEq κ] {L : List (κ × β)} (hn : (L.map (·.1)).Nodup) (k : κ) : ((adel L k).map (·.1)).Nodup := by
  induction L with
  | nil => simp [adel]
  | cons p r ih =>
    obtain ⟨a, b⟩ := p
    simp only [List.map_cons, List.nodup_cons] at hn
    by_cases h : a = k
    · subst h
      simpa [adel] using hn.2
    · have h2 : adel ((a, b) :: r) k = (a, b) :: adel r k := by simp [adel, h]
      rw [h2, List.map_cons, List.nodup_cons]
      refine ⟨fun hm => ?_, ih hn.2⟩
      obtain ⟨q, hq, e⟩ := List.mem_map.1 hm
      exact hn.1 (List.mem_map.2 ⟨q, adel_mem hq, e⟩)
/-- PUT -/
theorem put_sorted {m : Int} {L : PL} (hn : (L.map (·.1)).Nodup) (k : ByteArray) (v : Int) : putR m (sortedOf m L) k v = sortedOf m (aset L k v) :=
  ord_sorted (put_ord (sortedOf_ord hn) k v) (aset_nodup hn k v) ((put_perm _ _ _ _).trans (((without_perm (sortedOf_perm m L) k).cons _).trans (aset_perm hn k v).symm))
/-- DROP -/
theorem without_sorted {m : Int} {L : PL} (hn : (L.map (·.1)).Nodup) (k : ByteArray) : withoutR (sortedOf m L) k = sortedOf m (adel L k) :=
  ord_sorted (without_ord (sortedOf_ord hn) k) (adel_nodup hn k) (by rw [adel_without hn]; exact without_perm (sortedOf_perm m L) k)
theorem alook_some {κ β : Type} [DecidableEq κ] {L : List (κ × β)} (hn : (L.map (·.1)).Nodup) {k : κ} {v : β} (h : (k, v) ∈ L) : alook L k = some v := by
  induction L with
  | nil => simp at h
  | cons p r ih =>
    obtain ⟨a, b⟩ := p
    simp only [List.map_cons, List.nodup_cons] at hn
    rcases List.mem_cons.1 h with e | h
    · obtain ⟨rfl, rfl⟩ := Prod.mk.inj e
      simp [alook]
    · have : a ≠ k := fun e => hn.1 (e ▸ List.mem_map.2 ⟨_, h, rfl⟩)
      simp [alook, this, ih hn.2 h]
theorem alook_perm {κ β : Type} [DecidableEq κ] {L M : List (κ × β)} (hn : (L.map (·.1)).Nodup) (hp : M.Perm L) (k : κ) : alook M k = alook L k := by
  have hm : (M.map (·.1)).Nodup := (hp.map (·.1)).nodup_iff.2 hn
  cases h : alook L k with
  | some v => exact alook_some hm (hp.mem_iff.2 (alook_mem h))
  | none =>
    cases h' : alook M k with
    | none => rfl
    | some v =>
      rw [alook_some hn (hp.mem_iff.1 (alook_mem h'))] at h
      exact absurd h (by simp)
/-- GET -/
theorem get_sorted {m : Int} {L : PL} (hn : (L.map (·.1)).Nodup) (k : ByteArray) : alook (sortedOf m L) k = alook L k := alook_perm hn (sortedOf_perm m L) k
theorem sortedOf_nil (m : Int) : sortedOf m [] = [] := by simp [sortedOf]
end Go.Proofs.YtbmoehndnbbhcaaGreatDoor
namespace Go.Proofs.YtbmoehndnbbhcaaGreatDoor
set_option linter.unusedVariables false
set_option linter.unusedSimpArgs false
open Go.RowKit Go.MapKept
structure RMap where
  num : Int
  ro : Bool
  pairs : PL
structure RFam where
  mask : Int
  maps : List RMap
  walks : List (Int × IterD)
/-- the first map with a number -/
def findM (l : List RMap) (n : Int) : Option (Nat × RMap) :=
  match l with
  | [] => none
  | d :: r => if d.num = n then some (0, d) else (findM r n).map (fun p => (p.1 + 1, p.2))
def findW (l : List (Int × IterD)) (n : Int) : Option (Nat × IterD) :=
  match l with
  | [] => none
  | d :: r => if d.1 = n then some (0, d.2) else (findW r n).map (fun p => (p.1 + 1, p.2))
def idxO {α : Type} : Option (Nat × α) → Int
  | none => -1
  | some p => p.1
def strangerR (f : Option (Nat × IterD)) (t : Int) : Bool :=
  match f with
  | none => true
  | some p => p.2.thread != t
def roR (f : Option (Nat × RMap)) (b : Bool) : Bool :=
  match f with
  | none => false
  | some p => p.2.ro == b
/-- the refusals -/
def refusedR (g : RFam) (t i : Int) (o : OpD) : Int :=
  if numberOf t i < 0 ∨ o.kind < 1 ∨ 13 < o.kind then 1
  else if o.kind = 13 ∧ strangerR (findW g.walks o.handle) t = true then 5
  else if o.kind ≠ 13 ∧ (findM g.maps o.handle).isNone then 5
  else if o.kind ≤ 7 ∧ ¬ (o.key.size : Int) ≤ 64 then 1
  else if (o.kind ≤ 6 ∨ o.kind = 10) ∧ roR (findM g.maps o.handle) true = true then 6
  else if (o.kind = 11 ∨ o.kind = 12) ∧ roR (findM g.maps o.handle) false = true then 7
  else if (findM g.maps (numberOf t i)).isSome ∨ (findW g.walks (numberOf t i)).isSome then 8
  else 0
def setM (g : RFam) (i : Nat) (l : PL) : RFam := { g with maps := g.maps.modify i (fun d => { d with pairs := l }) }
def putK (o : OpD) (f : Option Int) : Bool := o.kind == 1 || (o.kind == 2 && !f.isSome) || (o.kind == 3 && f.isSome) || (o.kind == 4 && f.isSome && f.getD 0 == o.expect)
def delK (o : OpD) (f : Option Int) : Bool := f.isSome && (o.kind == 5 || (o.kind == 6 && f.getD 0 == o.expect))
def keyedR (g : RFam) (i : Nat) (d : RMap) (o : OpD) : RFam × ResD :=
  let f := alook d.pairs o.key
  if putK o f then (setM g i (putR g.mask d.pairs o.key o.value), { found := f.isSome, value := f.getD 0, count := 1 })
  else if delK o f then (setM g i (withoutR d.pairs o.key), { found := f.isSome, value := f.getD 0, count := 1 })
  else (g, { found := f.isSome, value := f.getD 0 })
def nextRef (g : RFam) (h : Int) : RFam × ResD :=
  match findW g.walks h with
  | none => (g, {})
  | some (k, it) =>
    match findM g.maps it.number with
    | none => (g, {})
    | some (_, d) =>
      if (d.pairs.length : Int) ≤ it.pos then (g, {})
      else ({ g with walks := g.walks.modify k (fun p => (p.1, { p.2 with pos := p.2.pos + 1 })) }, { found := true, key := (d.pairs[it.pos.toNat]?.getD (⟨#[]⟩, 0)).1, value := (d.pairs[it.pos.toNat]?.getD (⟨#[]⟩, 0)).2 })
def applyR (g : RFam) (t i : Int) (o : OpD) : RFam × ResD :=
  if refusedR g t i o ≠ 0 then (g, { err := refusedR g t i o })
  else if o.kind = 13 then nextRef g o.handle
  else match findM g.maps o.handle with
    | none => (g, {})
    | some (k, d) =>
      if o.kind = 8 ∨ o.kind = 9 then ({ g with maps := g.maps ++ [⟨numberOf t i, o.kind == 9, d.pairs⟩] }, { found := true })
      else if o.kind = 10 then (setM g k [], { found := true })
      else if o.kind = 11 then (g, { count := d.pairs.length })
      else if o.kind = 12 then ({ g with walks := g.walks ++ [(numberOf t i, ⟨t, o.handle, 0⟩)] }, { found := true })
      else keyedR g k d o
/-- the reference's family of a family -/
def refM (m : Int) (p : Int × AMap) : RMap := ⟨p.1, p.2.ro, sortedOf m p.2.vals⟩
def refOf (A : AFam) : RFam := ⟨A.mask, A.maps.map (refM A.mask), A.iters⟩
/-- keys once each -/
structure NdA (A : AFam) : Prop where
  maps : (A.maps.map (·.1)).Nodup
  iters : (A.iters.map (·.1)).Nodup
  vals : ∀ p ∈ A.maps, (p.2.vals.map (·.1)).Nodup
/-- the index of a key -/
def aidx {β : Type} : List (Int × β) → Int → Option Nat
  | [], _ => none
  | (a, _) :: r, k => if a = k then some 0 else (aidx r k).map (· + 1)
theorem aidx_look {β : Type} (L : List (Int × β)) (k : Int) : (aidx L k).isSome = (alook L k).isSome := by
  induction L with
  | nil => rfl
  | cons p r ih =>
    obtain ⟨a, b⟩ := p
    by_cases h : a = k
    · simp [aidx, alook, h]
    · simp [aidx, alook, h, ih]
theorem findM_ref (m : Int) (L : List (Int × AMap)) (n : Int) : findM (L.map (refM m)) n = (match aidx L n, alook L n with | some i, some d => some (i, refM m (n, d)) | _, _ => none) := by
  induction L with
  | nil => rfl
  | cons p r ih =>
    obtain ⟨a, b⟩ := p
    by_cases h : a = n
    · simp [findM, aidx, alook, refM, h]
    · have hh : ¬ (refM m (a, b)).num = n := h
      simp only [List.map_cons, findM, if_neg hh, aidx, alook, if_neg h, ih]
      cases h1 : aidx r n <;> cases h2 : alook r n <;> rfl
theorem findW_ref (L : List (Int × IterD)) (n : Int) : findW L n = (match aidx L n, alook L n with | some i, some d => some (i, d) | _, _ => none) := by
  induction L with
  | nil => rfl
  | cons p r ih =>
    obtain ⟨a, b⟩ := p
    by_cases h : a = n
    · simp [findW, aidx, alook, h]
    · simp only [findW, if_neg h, aidx, alook, ih]
      cases h1 : aidx r n <;> cases h2 : alook r n <;> rfl
theorem findM_some {m : Int} {L : List (Int × AMap)} {n : Int} {d : AMap} (h : alook L n = some d) : ∃ i, aidx L n = some i ∧ findM (L.map (refM m)) n = some (i, refM m (n, d)) := by
  have := aidx_look L n
  rw [h] at this
  obtain ⟨i, hi⟩ := Option.isSome_iff_exists.1 this
  exact ⟨i, hi, by rw [findM_ref, hi, h]⟩
theorem findM_none {m : Int} {L : List (Int × AMap)} {n : Int} (h : alook L n = none) : findM (L.map (refM m)) n = none := by
  rw [findM_ref, h]
  cases aidx L n <;> rfl
theorem findW_some {L : List (Int × IterD)} {n : Int} {d : IterD} (h : alook L n = some d) : ∃ i, aidx L n = some i ∧ findW L n = some (i, d) := by
  have := aidx_look L n
  rw [h] at this
  obtain ⟨i, hi⟩ := Option.isSome_iff_exists.1 this
  exact ⟨i, hi, by rw [findW_ref, hi, h]⟩
theorem findW_none {L : List (Int × IterD)} {n : Int} (h : alook L n = none) : findW L n = none := by
  rw [findW_ref, h]
  cases aidx L n <;> rfl
theorem findM_isSome (m : Int) (L : List (Int × AMap)) (n : Int) : (findM (L.map (refM m)) n).isSome = (alook L n).isSome := by
  cases h : alook L n with
  | none => rw [findM_none h]; rfl
  | some d => obtain ⟨i, _, hf⟩ := findM_some (m := m) h; rw [hf]; rfl
theorem findW_isSome (L : List (Int × IterD)) (n : Int) : (findW L n).isSome = (alook L n).isSome := by
  cases h : alook L n with
  | none => rw [findW_none h]; rfl
  | some d => obtain ⟨i, _, hf⟩ := findW_some h; rw [hf]; rfl
theorem aset_idx {β : Type} {L : List (Int × β)} {k : Int} {i : Nat} (h : aidx L k = some i) (f : β → β) {d : β} (hd : alook L k = some d) : aset L k (f d) = L.modify i (fun p => (p.1, f p.2)) := by
  induction L generalizing i with
  | nil => simp [aidx] at h
  | cons p r ih =>
    obtain ⟨a, b⟩ := p
    by_cases ha : a = k
    · subst ha
      simp [aidx] at h
      simp [alook] at hd
      subst h hd
      simp [aset]
    · simp only [aidx, if_neg ha, Option.map_eq_some_iff] at h
      obtain ⟨j, hj, rfl⟩ := h
      simp only [alook, if_neg ha] at hd
      simp [aset, ha, ih hj hd]
theorem aset_new' {β : Type} {L : List (Int × β)} {k : Int} {v : β} (h : alook L k = none) : aset L k v = L ++ [(k, v)] := by
  refine aset_new fun p hp e => ?_
  have : (alook L k).isSome = true := by
    clear v
    induction L with
    | nil => simp at hp
    | cons q r ih =>
      obtain ⟨a, b⟩ := q
      by_cases ha : a = k
      · simp [alook, ha]
      · simp only [alook, if_neg ha] at h ⊢
        rcases List.mem_cons.1 hp with rfl | hp
        · exact absurd e ha
        · exact ih h hp
  rw [h] at this
  simp at this
theorem aset_same {β : Type} {L : List (Int × β)} {k : Int} {v : β} (h : alook L k = some v) : aset L k v = L := by
  induction L with
  | nil => simp [alook] at h
  | cons p r ih =>
    obtain ⟨a, b⟩ := p
    by_cases ha : a = k
    · subst ha
      simp [alook] at h
      simp [aset, h]
    · simp only [alook, if_neg ha] at h
      simp [aset, ha, ih h]
theorem refOf_set {A : AFam} {n : Int} {i : Nat} {d : AMap} (hi : aidx A.maps n = some i) (hd : alook A.maps n = some d) (V : PL) :
    setM (refOf A) i (sortedOf A.mask V) = refOf { A with maps := aset A.maps n ⟨V, d.ro⟩ } := by
  have e : aset A.maps n ⟨V, d.ro⟩ = A.maps.modify i (fun p => (p.1, ⟨V, p.2.ro⟩)) := aset_idx hi (fun x : AMap => ⟨V, x.ro⟩) hd
  unfold setM refOf
  simp only [e, RFam.mk.injEq, true_and, and_true]
  generalize A.maps = L
  clear e hi hd
  induction L generalizing i with
  | nil => simp
  | cons p r ih =>
    cases i with
    | zero => simp [refM]
    | succ i => simp [ih]
/-- the refusals are the same -/
theorem refused_ref (A : AFam) (t i : Int) (o : OpD) : refusedR (refOf A) t i o = refusalA A t i o := by
  unfold refusedR refusalA
  by_cases h1 : numberOf t i < 0 ∨ o.kind < 1 ∨ 13 < o.kind
  · rw [if_pos h1, if_pos h1]
  rw [if_neg h1, if_neg h1]
  have hM := findM_isSome A.mask A.maps (numberOf t i)
  have hW := findW_isSome A.iters (numberOf t i)
  have hT : takenA A (numberOf t i) = true ↔ (findM (refOf A).maps (numberOf t i)).isSome = true ∨ (findW (refOf A).walks (numberOf t i)).isSome = true := by
    unfold takenA refOf
    rw [hM, hW]
    simp
  by_cases hk : o.kind = 13
  · have hb : (o.kind == 13) = true := by simp [hk]
    rw [if_pos hb]
    unfold lostA
    cases hi : alook A.iters o.handle with
    | none =>
      rw [if_pos ⟨hk, by rw [show (refOf A).walks = A.iters from rfl, findW_none hi]; rfl⟩]
      simp
    | some it =>
      obtain ⟨j, _, hf⟩ := findW_some hi
      have hf' : findW (refOf A).walks o.handle = some (j, it) := hf
      simp only [hf', strangerR]
      by_cases ht : it.thread = t
      · have ht' : (it.thread != t) = false := by simp [ht]
        rw [if_neg (show ¬ (o.kind = 13 ∧ (it.thread != t) = true) by simp [ht']), if_neg (show ¬ (it.thread != t) = true by simp [ht']), if_neg (by simp [hk]), if_neg (by omega), if_neg (by omega), if_neg (by omega)]
        by_cases hx : takenA A (numberOf t i) = true
        · rw [if_pos (hT.1 hx)]; simp [hx]
        · rw [if_neg (fun h => hx (hT.2 h))]; simp [hx]
      · have ht' : (it.thread != t) = true := by simp [ht]
        rw [if_pos (show o.kind = 13 ∧ (it.thread != t) = true from ⟨hk, ht'⟩), if_pos ht']
  · have hb : ¬ (o.kind == 13) = true := by simp [hk]
    rw [if_neg hb, if_neg (show ¬ (o.kind = 13 ∧ strangerR (findW (refOf A).walks o.handle) t = true) from fun h => hk h.1)]
    unfold unfitA
    cases hd : alook A.maps o.handle with
    | none =>
      have hf : findM (refOf A).maps o.handle = none := findM_none hd
      rw [if_pos ⟨hk, by rw [hf]; rfl⟩]
      simp
    | some d =>
      obtain ⟨j, _, hf⟩ := findM_some (m := A.mask) hd
      have hf' : findM (refOf A).maps o.handle = some (j, refM A.mask (o.handle, d)) := hf
      rw [if_neg (by rw [hf']; simp)]
      simp only [hf', refM, roR]
      unfold unfitK
      by_cases c1 : o.kind ≤ 7 ∧ ¬ (o.key.size : Int) ≤ 64
      · rw [if_pos c1, if_pos c1]
        simp
      rw [if_neg c1, if_neg c1]
      by_cases c2 : o.kind ≤ 6 ∨ o.kind = 10
      · have e2 : (o.kind == 1 || (o.kind == 2 || (o.kind == 3 || (o.kind == 4 || (o.kind == 5 || (o.kind == 6 || o.kind == 10)))))) = true := by
          have : o.kind = 1 ∨ o.kind = 2 ∨ o.kind = 3 ∨ o.kind = 4 ∨ o.kind = 5 ∨ o.kind = 6 ∨ o.kind = 10 := by omega
          rcases this with h | h | h | h | h | h | h <;> simp [h]
        rw [e2]
        have c3 : ¬ (o.kind = 11 ∨ o.kind = 12) := by omega
        cases hro : d.ro with
        | true => rw [if_pos ⟨c2, rfl⟩]; simp
        | false =>
          rw [if_neg (by simp), if_neg (fun h => c3 h.1)]
          by_cases hx : takenA A (numberOf t i) = true
          · rw [if_pos (hT.1 hx)]; simp [hx]
          · rw [if_neg (fun h => hx (hT.2 h))]; simp [hx]
      · have e2 : (o.kind == 1 || (o.kind == 2 || (o.kind == 3 || (o.kind == 4 || (o.kind == 5 || (o.kind == 6 || o.kind == 10)))))) = false := by
          have h1 : ¬ o.kind = 1 := by omega
          have h2 : ¬ o.kind = 2 := by omega
          have h3 : ¬ o.kind = 3 := by omega
          have h4 : ¬ o.kind = 4 := by omega
          have h5 : ¬ o.kind = 5 := by omega
          have h6 : ¬ o.kind = 6 := by omega
          have h10 : ¬ o.kind = 10 := by omega
          simp [h1, h2, h3, h4, h5, h6, h10]
        rw [e2, if_neg (fun h => c2 h.1)]
        by_cases c3 : o.kind = 11 ∨ o.kind = 12
        · have e3 : (o.kind == 11 || o.kind == 12) = true := by rcases c3 with h | h <;> simp [h]
          rw [e3]
          cases hro : d.ro with
          | false => rw [if_pos ⟨c3, rfl⟩]; simp
          | true =>
            rw [if_neg (by simp)]
            by_cases hx : takenA A (numberOf t i) = true
            · rw [if_pos (hT.1 hx)]; simp [hx]
            · rw [if_neg (fun h => hx (hT.2 h))]; simp [hx]
        · have e3 : (o.kind == 11 || o.kind == 12) = false := by
            have h1 : ¬ o.kind = 11 := by omega
            have h2 : ¬ o.kind = 12 := by omega
            simp [h1, h2]
          rw [e3, if_neg (fun h => c3 h.1)]
          by_cases hx : takenA A (numberOf t i) = true
          · rw [if_pos (hT.1 hx)]; simp [hx]
          · rw [if_neg (fun h => hx (hT.2 h))]; simp [hx]
end Go.Proofs.YtbmoehndnbbhcaaGreatDoor
namespace Go.Proofs.YtbmoehndnbbhcaaGreatDoor
set_option linter.unusedVariables false
set_option linter.unusedSimpArgs false
open Go.RowKit Go.MapKept
theorem NdA.look {A : AFam} (h : NdA A) {n : Int} {d : AMap} (hd : alook A.maps n = some d) : (d.vals.map (·.1)).Nodup := h.vals _ (alook_mem hd)
theorem putK_perm {o : OpD} {f : Option Int} (h1 : 1 ≤ o.kind) (h4 : o.kind ≤ 4) : putK o f = permK o.kind o.expect f ∧ delK o f = false := by
  have : o.kind = 1 ∨ o.kind = 2 ∨ o.kind = 3 ∨ o.kind = 4 := by omega
  rcases this with h | h | h | h <;> simp [putK, permK, delK, h]
theorem putK_drop {o : OpD} {f : Option Int} (h1 : 5 ≤ o.kind) (h4 : o.kind ≤ 6) : putK o f = false ∧ delK o f = dropK o.kind o.expect f := by
  have : o.kind = 5 ∨ o.kind = 6 := by omega
  rcases this with h | h <;> simp [putK, dropK, delK, h]
theorem putK_look {o : OpD} {f : Option Int} (h : o.kind = 7) : putK o f = false ∧ delK o f = false := by simp [putK, delK, h]
theorem keyed_ref {A : AFam} (hn : NdA A) {o : OpD} {d : AMap} {k : Nat} (hk : aidx A.maps o.handle = some k) (hd : alook A.maps o.handle = some d) (t i : Int) (h1 : 1 ≤ o.kind) (h7 : o.kind ≤ 7) :
    keyedR (refOf A) k (refM A.mask (o.handle, d)) o = (refOf (doA A t i o d).1, (doA A t i o d).2) := by
  have hv := hn.look hd
  have hg : alook (refM A.mask (o.handle, d)).pairs o.key = alook d.vals o.key := get_sorted hv o.key
  have hp : putR (refOf A).mask (refM A.mask (o.handle, d)).pairs o.key o.value = sortedOf A.mask (aset d.vals o.key o.value) := put_sorted hv _ _
  have hw : withoutR (refM A.mask (o.handle, d)).pairs o.key = sortedOf A.mask (adel d.vals o.key) := without_sorted hv _
  have hs : ({ A with maps := aset A.maps o.handle ⟨d.vals, d.ro⟩ } : AFam) = A := by
    rw [show (⟨d.vals, d.ro⟩ : AMap) = d from rfl, aset_same hd]
  unfold keyedR
  simp only [hg, hp, hw, refOf_set hk hd]
  by_cases c4 : o.kind ≤ 4
  · obtain ⟨e1, e2⟩ := putK_perm (f := alook d.vals o.key) h1 c4
    rw [e1, e2]
    simp only [doA, if_pos c4, setV, setR]
    cases permK o.kind o.expect (alook d.vals o.key) with
    | true => simp
    | false => simp [hs]
  by_cases c6 : o.kind ≤ 6
  · obtain ⟨e1, e2⟩ := putK_drop (f := alook d.vals o.key) (by omega) c6
    rw [e1, e2]
    simp only [doA, if_neg c4, if_pos c6, removeV, removeR]
    cases dropK o.kind o.expect (alook d.vals o.key) with
    | true => simp
    | false => simp [hs]
  · have h7' : o.kind = 7 := by omega
    obtain ⟨e1, e2⟩ := putK_look (f := alook d.vals o.key) h7'
    rw [e1, e2]
    simp [doA, h7']
theorem refOf_append {A : AFam} {n : Int} (h : alook A.maps n = none) (d : AMap) : ({ refOf A with maps := (refOf A).maps ++ [refM A.mask (n, d)] } : RFam) = refOf { A with maps := aset A.maps n d } := by
  rw [aset_new' h]
  simp [refOf]
theorem refOf_walk {A : AFam} {n : Int} (h : alook A.iters n = none) (d : IterD) : ({ refOf A with walks := (refOf A).walks ++ [(n, d)] } : RFam) = refOf { A with iters := aset A.iters n d } := by
  rw [aset_new' h]
  simp [refOf]
theorem next_ref {A : AFam} (n : Int) : nextRef (refOf A) n = (refOf (nextA A n).1, (nextA A n).2) := by
  unfold nextRef nextA
  cases hi : alook A.iters n with
  | none =>
    rw [show (refOf A).walks = A.iters from rfl, findW_none hi]
  | some it =>
    obtain ⟨j, hj, hf⟩ := findW_some hi
    rw [show (refOf A).walks = A.iters from rfl, hf]
    simp only
    cases hm : alook A.maps it.number with
    | none => rw [show findM (refOf A).maps it.number = none from findM_none hm]
    | some d =>
      obtain ⟨k, hk, hfm⟩ := findM_some (m := A.mask) hm
      rw [show findM (refOf A).maps it.number = some (k, refM A.mask (it.number, d)) from hfm]
      simp only
      have hl : (refM A.mask (it.number, d)).pairs.length = d.vals.length := sortedOf_length _ _
      rw [hl]
      by_cases hc : (d.vals.length : Int) ≤ it.pos
      · rw [if_pos hc, if_pos hc]
      · rw [if_neg hc, if_neg hc]
        have e : aset A.iters n { it with pos := it.pos + 1 } = A.iters.modify j (fun p => (p.1, { p.2 with pos := p.2.pos + 1 })) := aset_idx hj (fun x : IterD => { x with pos := x.pos + 1 }) hi
        rw [e]
        rfl
/-- THE LAW: an operation on the reference's family -/
theorem apply_ref {A : AFam} (hn : NdA A) (t i : Int) (o : OpD) : applyR (refOf A) t i o = (refOf (applyA A t i o).1, (applyA A t i o).2) := by
  by_cases hz : refusalA A t i o = 0
  · obtain ⟨_, k1, k2, ht, h13, hd⟩ := refusal_none hz
    have hr : refusedR (refOf A) t i o = 0 := (refused_ref A t i o).trans hz
    unfold applyR
    rw [if_neg (by rw [hr]; simp)]
    by_cases hk : o.kind = 13
    · rw [if_pos hk, applyA_next hz hk]
      exact next_ref _
    · rw [if_neg hk]
      obtain ⟨d, hd, hu⟩ := hd hk
      rw [applyA_do hz hk hd]
      obtain ⟨k, hi, hf⟩ := findM_some (m := A.mask) hd
      rw [show findM (refOf A).maps o.handle = some (k, refM A.mask (o.handle, d)) from hf]
      simp only
      have htm : alook A.maps (numberOf t i) = none := by
        unfold takenA at ht
        cases h : alook A.maps (numberOf t i) with
        | none => rfl
        | some x => rw [h] at ht; simp at ht
      have hti : alook A.iters (numberOf t i) = none := by
        unfold takenA at ht
        cases h : alook A.iters (numberOf t i) with
        | none => rfl
        | some x => rw [h] at ht; simp at ht
      by_cases c89 : o.kind = 8 ∨ o.kind = 9
      · rw [if_pos c89]
        have e : ({ refOf A with maps := (refOf A).maps ++ [⟨numberOf t i, o.kind == 9, (refM A.mask (o.handle, d)).pairs⟩] } : RFam) = _ := refOf_append htm ⟨d.vals, o.kind == 9⟩
        rw [e]
        simp only [doA]
        rw [if_neg (by omega), if_neg (by omega), if_neg (by omega), if_pos (by omega)]
      rw [if_neg c89]
      by_cases c10 : o.kind = 10
      · rw [if_pos c10]
        have e := refOf_set hi hd []
        rw [sortedOf_nil] at e
        rw [e]
        simp only [doA]
        rw [if_neg (by omega), if_neg (by omega), if_neg (by omega), if_neg (by omega), if_pos c10]
      rw [if_neg c10]
      by_cases c11 : o.kind = 11
      · rw [if_pos c11]
        have hl : (refM A.mask (o.handle, d)).pairs.length = d.vals.length := sortedOf_length _ _
        rw [hl]
        simp only [doA]
        rw [if_neg (by omega), if_neg (by omega), if_neg (by omega), if_neg (by omega), if_neg c10, if_pos c11]
      rw [if_neg c11]
      by_cases c12 : o.kind = 12
      · rw [if_pos c12, refOf_walk hti]
        simp only [doA]
        rw [if_neg (by omega), if_neg (by omega), if_neg (by omega), if_neg (by omega), if_neg c10, if_neg c11]
      rw [if_neg c12]
      exact keyed_ref hn hi hd t i k1 (by omega)
  · have hr := refused_ref A t i o
    unfold applyR
    rw [if_pos (by rw [hr]; exact hz), applyA_err hz, hr]
/-- keys stay once each -/
theorem NdA.set {A : AFam} (h : NdA A) (n : Int) (d : AMap) (hd : (d.vals.map (·.1)).Nodup) : NdA { A with maps := aset A.maps n d } :=
  ⟨aset_nodup h.maps _ _, h.iters, fun p hp => by
    rcases aset_mem hp with rfl | hp
    · exact hd
    · exact h.vals p hp⟩
theorem NdA.apply {A : AFam} (h : NdA A) (t i : Int) (o : OpD) : NdA (applyA A t i o).1 := by
  by_cases hz : refusalA A t i o = 0
  · obtain ⟨_, k1, k2, ht, h13, hd⟩ := refusal_none hz
    by_cases hk : o.kind = 13
    · rw [applyA_next hz hk]
      unfold nextA
      split
      · exact h
      · split
        · exact h
        · split
          · exact h
          · exact ⟨h.maps, aset_nodup h.iters _ _, h.vals⟩
    · obtain ⟨d, hd, hu⟩ := hd hk
      rw [applyA_do hz hk hd]
      have hv := h.look hd
      unfold doA
      split
      · refine h.set _ _ ?_
        simp only [setV]
        split
        · exact aset_nodup hv _ _
        · exact hv
      split
      · refine h.set _ _ ?_
        simp only [removeV]
        split
        · exact adel_nodup hv _
        · exact hv
      split
      · exact h
      split
      · exact h.set _ _ hv
      split
      · exact h.set _ _ (by simp)
      split
      · exact h
      · exact ⟨h.maps, aset_nodup h.iters _ _, h.vals⟩
  · rw [applyA_err hz]; exact h
end Go.Proofs.YtbmoehndnbbhcaaGreatDoor
