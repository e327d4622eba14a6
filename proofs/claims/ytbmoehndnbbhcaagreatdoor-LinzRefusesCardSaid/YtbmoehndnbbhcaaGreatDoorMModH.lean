/- The sort of ordered, off the shelf. The walks of package model, sixth part: Contents; the pairs of a map in their order. The walks of package model, seventh part: Contents. -/
import Derived.Test.YtbmoehndnbbhcaaGreatDoorMModE
import Derived.Test.YtbmoehndnbbhcaaGreatDoorLaid
import Derived.Test.YtbmoehndnbbhcaaGreatDoorMLtP
import Derived.Test.YtbmoehndnbbhcaaGreatDoorMAbs
import Derived.Test.YtbmoehndnbbhcaaGreatDoorMModA
import Derived.Deep.RegionWith
namespace Go.Proofs.YtbmoehndnbbhcaaGreatDoor
set_option linter.unusedVariables false
set_option linter.unusedSimpArgs false
open Go.RowKit Go.MapKept Go.Shelf Go.Lib Go.Sort

theorem lt_cmp (m : Int) (x y : ByteArray × Int) : ltOf (cmpP m) x y = ltP m x y := by
  unfold ltOf cmpP
  cases ltP m x y
  · cases ltP m y x <;> simp
  · simp
theorem swoP (m : Int) : SWO (ltOf (cmpP m)) where
  irrefl x := by rw [lt_cmp]; exact less_irrefl _ _
  trans x y z h1 h2 := by rw [lt_cmp] at *; exact less_trans _ _ _ _ _ _ h1 h2
  ntrans x y z h1 h2 := by
    rw [lt_cmp] at *
    cases h3 : ltP m x z with
    | false => rfl
    | true =>
      have e1 : ltP m y x = true := by
        cases h4 : ltP m y x with
        | true => rfl
        | false =>
          have e := ltP_total h1 h4
          have : ltP m y z = true := by
            have := h3
            unfold ltP at this ⊢
            rw [← e]
            exact this
          rw [h2] at this
          cases this
      have := less_trans _ _ _ _ _ _ e1 h3
      unfold ltP at h2
      rw [this] at h2
      cases h2
theorem closure_lays (m : Int) (x y : ByteArray × Int) (W : World) :
    Calls Tryz.prog 76 (#[.agg (encP m x).toArray, .agg (encP m y).toArray] ++ #[]) W fun e w' => e = .returned (.int .i64 (cmpP m x y)) ∧ ∃ q os', w' = grow (W.drewN q) os' := by
  refine (closure_any m x y W).mono fun e w' ⟨he, o1, o2, hw⟩ => ⟨he, 0, #[o1] ++ #[o2], ?_⟩
  rw [hw, alloc_eq_grow, alloc_eq_grow, grow_grow]
  rfl
theorem flatK_list (m : Int) (l : List (ByteArray × Int)) : (flatK (encP m) 3 l.toArray).toList = l.flatMap (encP m) := by
  apply List.ext_getElem?
  intro i
  by_cases hi : i < l.length * 3
  · have hq : i / 3 < l.length := by omega
    have hx : l[i / 3]? = some l[i / 3] := List.getElem?_eq_getElem hq
    have hf := flat_at (encP m) 3 (fun _ => rfl) l (i / 3) (i % 3) _ hx (by omega)
    rw [show i / 3 * 3 + i % 3 = i by omega] at hf
    rw [hf, Array.getElem?_toList]
    unfold flatK
    rw [Array.getElem?_map, Array.getElem?_range]
    rw [if_pos (by simpa using hi)]
    simp only [Option.map_some]
    have e1 : l.toArray[i / 3]! = l[i / 3] := by rw [getElem!_pos l.toArray (i / 3) (by simpa using hq)]; simp
    rw [e1]
    have hl : i % 3 < (encP m l[i / 3]).length := by show i % 3 < 3; omega
    rw [getElem!_pos (encP m l[i / 3]) (i % 3) hl, List.getElem?_eq_getElem hl]
  · rw [List.getElem?_eq_none (by rw [Array.length_toList, size_flatK]; simp; omega), List.getElem?_eq_none (by rw [flat_len (encP m) 3 (fun _ => rfl)]; omega)]
theorem sort_said : SortSaid := by
  intro w base g cap m l hown hn
  have hown' := hown
  obtain ⟨o1, o2⟩ := hown
  rcases o2 with ⟨h1, _⟩ | ⟨g', cap', cur, h1, h2, h3, h4, h5, h6, h7⟩
  · simp at h1
  · simp only [Value.slice.injEq, Option.some.injEq, Addr.mk.injEq, true_and, and_true] at h1
    obtain ⟨rfl, rfl⟩ := h1
    have hH : HoldsK (encP m) 3 w g 0 l.toArray := by
      intro j hj
      have hj' : j < l.length * 3 := by simpa using hj
      refine ⟨?_, by simp [World.frozen?, h3]⟩
      rw [Nat.zero_add, blk_cell h3]
      have e1 : cur[j]? = (l.flatMap (encP m))[j]? := by
        rw [← h7, List.getElem?_take_of_lt hj', Array.getElem?_toList]
      rw [e1, ← flatK_list, Array.getElem?_toList, Array.getElem?_eq_getElem hj, getElem!_pos (flatK (encP m) 3 l.toArray) j hj]
      rfl
    have eg : ∀ args w, (callFunc 76 args).run Tryz.prog w = .ok (.enter 76 args) w := enters_of Tryz.func76 (by kernel_rfl) rfl
    have hcmp : CmpLays Tryz.prog 76 #[] (encP m) 3 (cmpP m) g 0 l.toArray.size w := fun _ _ _ _ x y => closure_lays m x y _
    have hone : ∀ x, ∀ v ∈ encP m x, v.oneCell' = true := fun x v hv => by
      simp [encP] at hv
      rcases hv with rfl | rfl | rfl <;> rfl
    have hcon := AnyQ.slices_SortFunc Tryz.sortH 3 Tryz.isAgg150 Tryz.sizeOf150 (encP m) (fun _ => rfl) hone (cmpP m) (swoP m) 76 #[] g 0 cap l.toArray w eg hcmp hH (Array.getElem?_eq_some_iff.1 h3).1 (by simp; omega)
    refine hcon.mono fun e w' ⟨he, d', n, os, hp, hs, hw⟩ => ⟨he, d'.toList, ?_, ?_, ?_, ?_⟩
    · have h1 := hp.1
      have h2 := hp.2.2
      have e1 : d'.extract 0 l.toArray.size = d' := by rw [← h1]; simp
      have e2 : l.toArray.extract 0 l.toArray.size = l.toArray := by simp
      rw [e1, e2] at h2
      exact h2
    · rw [List.pairwise_iff_getElem]
      intro i j hi hj hij
      have hsz := hp.1
      have hi' : i < d'.size := by simpa using hi
      have hj' : j < d'.size := by simpa using hj
      have h8 := hs i j (Nat.zero_le _) hij (by rw [← hsz]; exact hj')
      rw [lt_cmp, getElem!_pos d' i hi', getElem!_pos d' j hj'] at h8
      simpa using h8
    · have hsz : d'.toList.length = l.length := by have := hp.1; simpa using this
      rw [hw]
      have hdd : d'.toList.toArray = d' := by simp
      have hfl : (flatK (encP m) 3 d').toList = d'.toList.flatMap (encP m) := by have := flatK_list m d'.toList; rw [hdd] at this; exact this
      have hfs : (flatK (encP m) 3 d').size = l.length * 3 := by rw [size_flatK]; have := hp.1; simp at this; rw [this]
      have hlt : g < w.heap.size := (Array.getElem?_eq_some_iff.1 h3).1
      have hheap : (sortWorldK (encP m) 3 w g 0 n d' os).heap[g]? = some (.cells (putCells id 0 (flatK (encP m) 3 d') cur) 150 (0, 0)) := by
        unfold sortWorldK putRowK
        rw [heap_grow_old _ _ (by simpa using hlt)]
        simp [putRow, mapBlock, Sort.ahead, Array.getElem?_modify, h3, onCells]
      refine ⟨by rw [flat_len (encP m) 3 (fun _ => rfl), hsz], Or.inr ⟨g, cap, _, rfl, h2, hheap, h4, h5, by simp [putCells, h6], ?_⟩⟩
      rw [← hfl]
      apply List.ext_getElem?
      intro j
      by_cases hj : j < l.length * 3
      · rw [List.getElem?_take_of_lt hj, Array.getElem?_toList, Array.getElem?_toList]
        have hjc : j < cur.size := by rw [h6]; have := Nat.mul_le_mul_right 3 h4; omega
        have hjf : j < (flatK (encP m) 3 d').size := by rw [hfs]; exact hj
        unfold putCells
        rw [Array.getElem?_mapIdx, Array.getElem?_eq_getElem hjc, Array.getElem?_eq_getElem hjf]
        simp only [Option.map_some, Nat.zero_le, Nat.zero_add, true_and, Nat.sub_zero, id]
        rw [if_pos hjf, getElem!_pos (flatK (encP m) 3 d') j hjf]
      · rw [List.getElem?_take_eq_none (by omega), List.getElem?_eq_none (by rw [Array.length_toList, hfs]; omega)]
    · rw [hw]
      have hlt : g < w.heap.size := (Array.getElem?_eq_some_iff.1 h3).1
      refine ⟨rfl, rfl, rfl, by simp [sortWorldK, putRowK, grow, Sort.ahead], fun k hk hne => ?_⟩
      unfold sortWorldK putRowK
      rw [heap_grow_old _ _ (by simpa using hk)]
      have : g ≠ k := fun e => hne e.symm
      simp [putRow, mapBlock, Sort.ahead, Array.getElem?_modify, this]
/-- ordered, whatever the family -/
theorem ordered_any (w : World) (bf : Nat) (m : Int) (d : MapD) (hlf : bf < w.heap.size) (hc0 : w.cell? ⟨bf, 0, none⟩ = some (.int .u64 m)) (m0 : 0 ≤ m) (m1 : m ≤ 18446744073709551615)
    (h : ValsIs w d.ref d.vals) (hks : ∀ p ∈ d.vals, p.1.size ≤ 64) (hn : d.vals.length ≤ 1099511627776) :
    Calls Tryz.prog 64 #[.pointer (some ⟨bf, 0, none⟩), mapV d] w fun e w' => OrderedPost w d.vals m e w' :=
  ordered_of sort_said w bf m d hlf hc0 m0 m1 h hks hn
end Go.Proofs.YtbmoehndnbbhcaaGreatDoor
namespace Go.Proofs.YtbmoehndnbbhcaaGreatDoor
set_option linter.unusedVariables false
set_option linter.unusedSimpArgs false
open Go.RowKit Go.MapKept

theorem key_unique {L : List (ByteArray × Int)} (hn : (L.map (·.1)).Nodup) {a b : ByteArray × Int} (ha : a ∈ L) (hb : b ∈ L) (h : a.1 = b.1) : a = b := by
  induction L with
  | nil => simp at ha
  | cons x t ih =>
    simp only [List.map_cons, List.nodup_cons] at hn
    rcases List.mem_cons.1 ha with rfl | ha'
    · rcases List.mem_cons.1 hb with rfl | hb'
      · rfl
      · exact absurd (h ▸ List.mem_map.2 ⟨b, hb', rfl⟩) hn.1
    · rcases List.mem_cons.1 hb with rfl | hb'
      · exact absurd (h ▸ List.mem_map.2 ⟨a, ha', rfl⟩) hn.1
      · exact ih hn.2 ha' hb'
theorem sorted_unique {m : Int} {L l : List (ByteArray × Int)} (hn : (L.map (·.1)).Nodup) (hp : l.Perm L) (hs : l.Pairwise (fun a b => ltP m b a = false)) : l = sortedOf m L := by
  refine List.Perm.eq_of_pairwise (le := fun a b => ltP m b a = false) (fun a b ha hb h1 h2 => ?_) hs (sortedOf_sorted m L) (hp.trans (sortedOf_perm m L).symm)
  exact key_unique hn (hp.subset ha) ((sortedOf_perm m L).subset hb) (ltP_total h2 h1)

/-- the bounds of a family -/
structure FamOk (N : Nat) (F : FamD) : Prop where
  m0 : 0 ≤ F.mask
  m1 : F.mask ≤ 18446744073709551615
  keys : ∀ p ∈ F.maps, ∀ q ∈ p.2.vals, q.1.size ≤ 64
  lens : ∀ p ∈ F.maps, p.2.vals.length ≤ N
  poss : ∀ p ∈ F.iters, 0 ≤ p.2.pos ∧ p.2.pos ≤ N
  nums : ∀ p ∈ F.iters, (alook F.maps p.2.number).isSome = true
  count : F.maps.length ≤ N
theorem OkA.fam {N : Nat} {F : FamD} (h : OkA N F.abs) : FamOk N F := by
  have mem : ∀ p ∈ F.maps, (p.1, p.2.abs) ∈ F.abs.maps := fun p hp => List.mem_map.2 ⟨p, hp, rfl⟩
  refine ⟨h.m0, h.m1, fun p hp => h.keys _ (mem p hp), fun p hp => h.lens _ (mem p hp), h.poss, fun p hp => ?_, ?_⟩
  · have := h.nums p hp
    simpa [FamD.abs, alook_amap] using this
  · have := h.count
    simpa [FamD.abs, amap] using this
/-- what ordered leaves, at a map of a family -/
def ListPost (w : World) (L : List (ByteArray × Int)) (m : Int) (v : Value) (w' : World) : Prop :=
  ∃ g : Nat, v = .slice (some ⟨g, 0, none⟩) L.length L.length ∧ w'.ownsRow w.heap.size 122 2 (.slice (some ⟨g, 0, none⟩) L.length L.length) L.length ((sortedOf m L).flatMap pairV) ∧ Below w.heap.size w w'
theorem ordered_fam (w : World) (bf bm bi : Nat) (F : FamD) (N : Nat) (hN : N ≤ 1099511627776) (hok : FamOk N F) (h : FamIs w bf bm bi F) (n : Int) (d : MapD) (hn : alook F.maps n = some d) :
    Calls Tryz.prog 64 #[.pointer (some ⟨bf, 0, none⟩), mapV d] w fun e w' => ∃ v, e = .returned v ∧ ListPost w d.vals F.mask v w' := by
  have hm := alook_mem hn
  have hv := h.vals _ hm
  refine (ordered_any w bf F.mask d (h.lt (Or.inl rfl)) h.cell.1 hok.m0 hok.m1 hv (hok.keys _ hm) (Nat.le_trans (hok.lens _ hm) hN)).mono fun e w' ⟨g, l, he, h1, h2, h3, h4⟩ => ⟨_, he, g, rfl, ?_, h4⟩
  rw [← sorted_unique (hv.nodup inj_str) h1 h2]
  exact h3
end Go.Proofs.YtbmoehndnbbhcaaGreatDoor
namespace Go.Proofs.YtbmoehndnbbhcaaGreatDoor
set_option linter.unusedVariables false
set_option linter.unusedSimpArgs false
open Go.RowKit Go.MapKept
theorem owns_base {w : World} {base base' : Nat} {e : TypeId} {size : Nat} {v : Value} {n : Nat} {xs : List Value} (h : w.ownsRow base e size v n xs) (hb : base' ≤ base) : w.ownsRow base' e size v n xs := by
  obtain ⟨o1, o2⟩ := h
  refine ⟨o1, ?_⟩
  rcases o2 with h1 | ⟨g, cap, cur, h1, h2, h3⟩
  · exact Or.inl h1
  · exact Or.inr ⟨g, cap, cur, h1, by omega, h3⟩
theorem contents_none (w : World) (bf bm bi : Nat) (F : FamD) (h : FamIs w bf bm bi F) (n : Int) (hn : alook F.maps n = none) :
    Calls Tryz.prog 57 #[.pointer (some ⟨bf, 0, none⟩), .int .i64 n] w fun e w' => e = .returned (.tuple #[.slice none 0 0, .bool false, .bool false]) ∧ Below w.heap.size w w' := by
  have hlf := h.lt (k := bf) (Or.inl rfl)
  have hlm := h.lt (k := bm) (Or.inr (Or.inl rfl))
  obtain ⟨c0, c1, c2⟩ := h.cell
  have hl := h.look_maps n true
  rw [hn] at hl
  simp only [if_true, outOf, Option.isSome_none] at hl
  clear h hn
  go_enter Tryz.func57, Tryz.ntmps57
  go_wp2_with fail
  go_ret3
  exact ⟨rfl, (Below.refl _ _).alloc (Nat.le_refl _) _⟩
theorem contents_some (w : World) (bf bm bi : Nat) (F : FamD) (N : Nat) (hN : N ≤ 1099511627776) (hok : FamOk N F) (h : FamIs w bf bm bi F) (n : Int) (d : MapD) (hn : alook F.maps n = some d) :
    Calls Tryz.prog 57 #[.pointer (some ⟨bf, 0, none⟩), .int .i64 n] w fun e w' => ∃ v, e = .returned (.tuple #[v, .bool d.ro, .bool true]) ∧ ListPost w d.vals F.mask v w' := by
  have hlf := h.lt (k := bf) (Or.inl rfl)
  have hlm := h.lt (k := bm) (Or.inr (Or.inl rfl))
  obtain ⟨c0, c1, c2⟩ := h.cell
  have hl := h.look_maps n true
  have hA : FamIs (w.alloc (.cells #[.map (some d.ref), .bool d.ro] 99)).drew bf bm bi F := h.below (((Below.refl _ _).alloc (Nat.le_refl _) _).drew)
  have hcon := ordered_fam _ bf bm bi F N hN hok hA n d hn
  rw [hn] at hl
  simp only [if_true, outOf, Option.isSome_some, mapV] at hl hcon
  have HC := Lib.hid hcon
  clear h hn hA hcon
  obtain ⟨r, L, ro⟩ := d
  simp only at hl HC ⊢
  go_enter Tryz.func57, Tryz.ntmps57
  go_wp2_with fail
  go_region_with (go_at_call 64; refine HC.out.mono ?_; rintro e w1 ⟨v, rfl, g, rfl, hg1, hg2⟩; have q1 := hg2.cell (p := ⟨w.heap.size, 1, none⟩) (by simp); have G1 := Lib.hid (And.intro hg1 hg2); clear hg1 hg2)
  all_goals
    go_wp2_with fail
    go_ret3
    have hp := G1.out
    exact ⟨_, rfl, g, rfl, owns_base hp.1 (by simp), Below.trans (((Below.refl _ _).alloc (Nat.le_refl _) _).drew) (hp.2.mono (by simp))⟩
end Go.Proofs.YtbmoehndnbbhcaaGreatDoor
