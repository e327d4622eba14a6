/- How a change of one part leaves a family; small facts on blocks. -/
import Derived.Test.YtagfghihnkkfiaaFam
namespace Go.Proofs.Ytagfghihnkkfiaa
set_option linter.unusedVariables false
set_option linter.unusedSimpArgs false
open Go.RowKit Go.MapKept
theorem blk_cell {w : World} {g : Nat} {t : TypeId} {cs : Array Value} (h : w.heap[g]? = some (.cells cs t (0, 0))) (i : Nat) : w.cell? ⟨g, i, none⟩ = cs[i]? := by
  unfold World.cell?
  rw [h]
  simp
theorem alook_mem {κ β : Type} [DecidableEq κ] {L : List (κ × β)} {k : κ} {v : β} (h : alook L k = some v) : (k, v) ∈ L := by
  induction L with
  | nil => simp [alook] at h
  | cons p r ih =>
    obtain ⟨a, b⟩ := p
    simp only [alook] at h
    by_cases ha : a = k
    · rw [if_pos ha] at h
      simp only [Option.some.injEq] at h
      subst ha h
      exact .head _
    · rw [if_neg ha] at h
      exact .tail _ (ih h)
theorem map_not_cells {κ β : Type} [DecidableEq κ] {w : World} {r b : Nat} {d : TypeDesc} {kk : κ → Value} {f : β → Value} {L : List (κ × β)} (h : MapIs w r d kk f L) {c : Array Value} {t : TypeId} {q : Nat × Nat} (hb : w.heap[b]? = some (.cells c t q)) : b ≠ r := by
  rintro rfl
  obtain ⟨es, clock, h1, _⟩ := h
  rw [h1] at hb
  cases hb
theorem FamIs.set_iters {w w' : World} {bf bm bi : Nat} {F : FamD} {L : List (Int × IterD)} (h : FamIs w bf bm bi F) (hb : ∀ k, k < w.heap.size → k ≠ bi → w'.heap[k]? = w.heap[k]?) (hm : MapIs w' bi (.int .i64) (Value.int .i64) itV L) :
    FamIs w' bf bm bi { F with iters := L } := by
  have hn := h.nodup
  simp only [List.nodup_cons, List.mem_cons, not_or, List.mem_map, not_exists, not_and] at hn
  exact ⟨(hb bf (h.lt (Or.inl rfl)) (map_not_cells h.iters h.cells)).trans h.cells, h.maps.of_block (hb bm h.maps.lt hn.1.1), hm,
    fun p hp => (h.vals p hp).of_block (hb _ (h.vals p hp).lt (fun e => hn.2.1 p hp e)), h.nodup⟩
theorem map_ref_aset {L : List (Int × MapD)} {n : Int} {d d' : MapD} (hl : alook L n = some d) (hr : d'.ref = d.ref) (ho : d'.ro = d.ro) :
    (aset L n d').map (fun p => (Value.int .i64 p.1, mapV p.2)) = L.map (fun p => (Value.int .i64 p.1, mapV p.2)) ∧ (aset L n d').map (fun p => p.2.ref) = L.map (fun p => p.2.ref) := by
  induction L with
  | nil => simp [alook] at hl
  | cons p r ih =>
    obtain ⟨a, b⟩ := p
    by_cases ha : a = n
    · subst ha
      simp [alook] at hl
      subst hl
      simp [aset, mapV, hr, ho]
    · simp only [alook, if_neg ha] at hl
      obtain ⟨i1, i2⟩ := ih hl
      simp [aset, if_neg ha, i1, i2]
theorem aset_mem {κ β : Type} [DecidableEq κ] {L : List (κ × β)} {n : κ} {d : β} {p : κ × β} (h : p ∈ aset L n d) : p = (n, d) ∨ (p ∈ L ) := by
  induction L with
  | nil => simp [aset] at h; exact Or.inl h
  | cons q r ih =>
    obtain ⟨a, b⟩ := q
    by_cases ha : a = n
    · simp [aset, ha] at h
      rcases h with h | h
      · exact Or.inl h
      · exact Or.inr (.tail _ h)
    · simp [aset, ha] at h
      rcases h with h | h
      · exact Or.inr (h ▸ .head _)
      · rcases ih h with h | h
        · exact Or.inl h
        · exact Or.inr (.tail _ h)
theorem aset_split {L : List (Int × MapD)} {n : Int} {d d' : MapD} (hl : alook L n = some d) (hn : (L.map (fun p => p.2.ref)).Nodup) {p : Int × MapD} (hp : p ∈ aset L n d') : p = (n, d') ∨ (p ∈ L ∧ p.2.ref ≠ d.ref) := by
  induction L with
  | nil => simp [alook] at hl
  | cons q r ih =>
    obtain ⟨a, b⟩ := q
    simp only [List.map_cons, List.nodup_cons] at hn
    by_cases ha : a = n
    · subst ha
      simp [alook] at hl
      subst hl
      simp [aset] at hp
      rcases hp with hp | hp
      · exact Or.inl hp
      · exact Or.inr ⟨.tail _ hp, fun e => hn.1 (e ▸ List.mem_map.2 ⟨p, hp, rfl⟩)⟩
    · simp only [alook, if_neg ha] at hl
      simp [aset, ha] at hp
      rcases hp with hp | hp
      · subst hp
        exact Or.inr ⟨.head _, fun e => hn.1 (e ▸ List.mem_map.2 ⟨(n, d), alook_mem hl, rfl⟩)⟩
      · rcases ih hl hn.2 hp with h | ⟨h, k⟩
        · exact Or.inl h
        · exact Or.inr ⟨.tail _ h, k⟩
theorem FamIs.set_vals {w w' : World} {bf bm bi : Nat} {F : FamD} {n : Int} {d : MapD} {L : List (ByteArray × Int)} (h : FamIs w bf bm bi F) (hl : alook F.maps n = some d) (hb : ∀ k, k < w.heap.size → k ≠ d.ref → w'.heap[k]? = w.heap[k]?) (hm : ValsIs w' d.ref L) :
    FamIs w' bf bm bi { F with maps := aset F.maps n { d with vals := L } } := by
  have hn := h.nodup
  have hmem := alook_mem hl
  obtain ⟨r1, r2⟩ := map_ref_aset (d' := { d with vals := L }) hl rfl rfl
  have hn' := hn
  simp only [List.nodup_cons, List.mem_cons, not_or, List.mem_map, not_exists, not_and] at hn
  have nb : bm ≠ d.ref := fun e => hn.1.2 _ hmem e.symm
  have ni : bi ≠ d.ref := fun e => hn.2.1 _ hmem e.symm
  refine ⟨(hb bf (h.lt (Or.inl rfl)) (map_not_cells (h.vals _ hmem) h.cells)).trans h.cells, ?_, h.iters.of_block (hb bi h.iters.lt ni), ?_, ?_⟩
  · obtain ⟨es, clock, k1, k2, k3, k4⟩ := h.maps.of_block (hb bm h.maps.lt nb)
    exact ⟨es, clock, k1, k2, k3, k4.trans r1.symm⟩
  · intro p hp
    rcases aset_split hl (by simpa using hn.2.2) hp with rfl | ⟨h1, h2⟩
    · exact hm
    · exact (h.vals p h1).of_block (hb _ (h.vals p h1).lt h2)
  · show (bm :: bi :: (aset F.maps n { d with vals := L }).map (fun p => p.2.ref)).Nodup
    rw [r2]; exact hn'
theorem alook_new {κ β : Type} [DecidableEq κ] {L : List (κ × β)} {k : κ} (h : alook L k = none) : ∀ p ∈ L, p.1 ≠ k := by
  induction L with
  | nil => simp
  | cons q r ih =>
    obtain ⟨a, b⟩ := q
    by_cases ha : a = k
    · simp [alook, ha] at h
    · simp only [alook, if_neg ha] at h
      intro p hp
      rcases List.mem_cons.1 hp with rfl | hp
      · exact ha
      · exact ih h p hp
theorem FamIs.new_map {w w' : World} {bf bm bi : Nat} {F : FamD} {n : Int} {d : MapD} (h : FamIs w bf bm bi F) (hl : alook F.maps n = none) (hb : ∀ k, k < w.heap.size → k ≠ bm → w'.heap[k]? = w.heap[k]?) (hm : MapIs w' bm (.int .i64) (Value.int .i64) mapV (aset F.maps n d)) (hr : w.heap.size ≤ d.ref) (hv : ValsIs w' d.ref d.vals) :
    FamIs w' bf bm bi { F with maps := aset F.maps n d } := by
  have hn := h.nodup
  have hs := aset_new (v := d) (alook_new hl)
  simp only [List.nodup_cons, List.mem_cons, not_or, List.mem_map, not_exists, not_and] at hn
  have hmlt := h.maps.lt
  have hilt := h.iters.lt
  refine ⟨(hb bf (h.lt (Or.inl rfl)) (map_not_cells h.maps h.cells)).trans h.cells, hm, h.iters.of_block (hb bi h.iters.lt (fun e => hn.1.1 e.symm)), ?_, ?_⟩
  · intro p hp
    rcases aset_mem hp with rfl | hp
    · exact hv
    · exact (h.vals p hp).of_block (hb _ (h.vals p hp).lt (fun e => hn.1.2 p hp e))
  · show (bm :: bi :: (aset F.maps n d).map (fun p => p.2.ref)).Nodup
    rw [hs]
    simp only [List.map_append, List.map_cons, List.map_nil, List.nodup_cons, List.mem_cons, List.mem_append, List.mem_map, not_or, not_exists, not_and, List.nodup_append, List.not_mem_nil, not_false_eq_true, and_true, List.nodup_nil]
    refine ⟨⟨hn.1.1, hn.1.2, by omega⟩, ⟨hn.2.1, by omega⟩, hn.2.2, ?_⟩
    refine ⟨by simp, ?_⟩
    intro a ha b hb2
    obtain ⟨x, hx, rfl⟩ := ha
    have := (h.vals x hx).lt
    simp at hb2
    omega
theorem three_blocks (w : World) (o1 o2 o3 : Obj) : (((w.alloc o1).alloc o2).alloc o3).heap[w.heap.size]? = some o1 ∧ (((w.alloc o1).alloc o2).alloc o3).heap[w.heap.size + 1]? = some o2 := by
  refine ⟨?_, ?_⟩
  · rw [Below.heap_alloc _ _ _ (by simp <;> omega), Below.heap_alloc _ _ _ (by simp <;> omega)]; exact (heap_alloc w o1).1
  · rw [Below.heap_alloc _ _ _ (by simp <;> omega)]
    have := (heap_alloc (w.alloc o1) o2).1
    simpa using this
theorem four_blocks (w : World) (o1 o2 o3 o4 : Obj) : ((((w.alloc o1).alloc o2).alloc o3).alloc o4).heap[w.heap.size]? = some o1 ∧ ((((w.alloc o1).alloc o2).alloc o3).alloc o4).heap[w.heap.size + 1]? = some o2 ∧ ((((w.alloc o1).alloc o2).alloc o3).alloc o4).heap[w.heap.size + 1 + 1 + 1]? = some o4 := by
  obtain ⟨t1, t2⟩ := three_blocks w o1 o2 o3
  refine ⟨?_, ?_, ?_⟩
  · rw [Below.heap_alloc _ _ _ (by simp <;> omega)]; exact t1
  · rw [Below.heap_alloc _ _ _ (by simp <;> omega)]; exact t2
  · have := (heap_alloc (((w.alloc o1).alloc o2).alloc o3) o4).1
    simpa using this
theorem alloc_here (w : World) (o : Obj) : (w.alloc o).heap[w.heap.size]? = some o := (heap_alloc w o).1
theorem alloc_here' (w : World) (o : Obj) (k : Nat) (h : k = w.heap.size) : (w.alloc o).heap[k]? = some o := by subst h; exact (heap_alloc w o).1
theorem alloc_old (w : World) (o : Obj) (k : Nat) (h : k < w.heap.size) : (w.alloc o).heap[k]? = w.heap[k]? := Below.heap_alloc w o k h
end Go.Proofs.Ytagfghihnkkfiaa
