/- The sort of ordered, off the shelf. -/
import Derived.Test.YtagfghihnkkfiaaModE
import Derived.Test.YtagfghihnkkfiaaLaid
namespace Go.Proofs.Ytagfghihnkkfiaa
set_option linter.unusedVariables false
set_option linter.unusedSimpArgs false
open Go.RowKit Go.MapKept Go.Shelf Go.Lib Go.Sort

theorem lt_cmp (m : Int) (x y : ByteArray × Int) : ltOf (cmpP m) x y = ltP m x y := by
  unfold ltOf cmpP
  cases ltP m x y
  · cases ltP m y x <;> simp
  · simp
theorem ltP_total {m : Int} {x y : ByteArray × Int} (h1 : ltP m x y = false) (h2 : ltP m y x = false) : x.1 = y.1 :=
  bytes_ext _ _ (less_total _ _ _ _ (hashM_bd _ _).1 (hashM_bd _ _).2 (hashM_bd _ _).1 (hashM_bd _ _).2 h1 h2).2
theorem swoP (m : Int) : SWO (ltOf (cmpP m)) where
  irrefl x := by rw [lt_cmp]; exact less_irrefl _ _
  trans x y z h1 h2 := by rw [lt_cmp] at *; exact less_trans _ _ _ _ _ _ h1 h2
  ntrans x y z h1 h2 := by
    rw [lt_cmp] at *
    cases h3 : ltP m x z with
    | false => rfl
    | true =>
      have e1 : ltP m y x = true := by
        cases h4 : ltP m y x with
        | true => rfl
        | false =>
          have e := ltP_total h1 h4
          have : ltP m y z = true := by
            have := h3
            unfold ltP at this ⊢
            rw [← e]
            exact this
          rw [h2] at this
          cases this
      have := less_trans _ _ _ _ _ _ e1 h3
      unfold ltP at h2
      rw [this] at h2
      cases h2
theorem closure_lays (m : Int) (x y : ByteArray × Int) (W : World) :
    Calls Try.prog 51 (#[.agg (encP m x).toArray, .agg (encP m y).toArray] ++ #[]) W fun e w' => e = .returned (.int .i64 (cmpP m x y)) ∧ ∃ q os', w' = grow (W.drewN q) os' := by
  refine (closure_any m x y W).mono fun e w' ⟨he, o1, o2, hw⟩ => ⟨he, 0, #[o1] ++ #[o2], ?_⟩
  rw [hw, alloc_eq_grow, alloc_eq_grow, grow_grow]
  rfl
theorem flatK_list (m : Int) (l : List (ByteArray × Int)) : (flatK (encP m) 3 l.toArray).toList = l.flatMap (encP m) := by
  apply List.ext_getElem?
  intro i
  by_cases hi : i < l.length * 3
  · have hq : i / 3 < l.length := by omega
    have hx : l[i / 3]? = some l[i / 3] := List.getElem?_eq_getElem hq
    have hf := flat_at (encP m) 3 (fun _ => rfl) l (i / 3) (i % 3) _ hx (by omega)
    rw [show i / 3 * 3 + i % 3 = i by omega] at hf
    rw [hf, Array.getElem?_toList]
    unfold flatK
    rw [Array.getElem?_map, Array.getElem?_range]
    rw [if_pos (by simpa using hi)]
    simp only [Option.map_some]
    have e1 : l.toArray[i / 3]! = l[i / 3] := by rw [getElem!_pos l.toArray (i / 3) (by simpa using hq)]; simp
    rw [e1]
    have hl : i % 3 < (encP m l[i / 3]).length := by show i % 3 < 3; omega
    rw [getElem!_pos (encP m l[i / 3]) (i % 3) hl, List.getElem?_eq_getElem hl]
  · rw [List.getElem?_eq_none (by rw [Array.length_toList, size_flatK]; simp; omega), List.getElem?_eq_none (by rw [flat_len (encP m) 3 (fun _ => rfl)]; omega)]
theorem sort_said : SortSaid := by
  intro w base g cap m l hown hn
  have hown' := hown
  obtain ⟨o1, o2⟩ := hown
  rcases o2 with ⟨h1, _⟩ | ⟨g', cap', cur, h1, h2, h3, h4, h5, h6, h7⟩
  · simp at h1
  · simp only [Value.slice.injEq, Option.some.injEq, Addr.mk.injEq, true_and, and_true] at h1
    obtain ⟨rfl, rfl⟩ := h1
    have hH : HoldsK (encP m) 3 w g 0 l.toArray := by
      intro j hj
      have hj' : j < l.length * 3 := by simpa using hj
      refine ⟨?_, by simp [World.frozen?, h3]⟩
      rw [Nat.zero_add, blk_cell h3]
      have e1 : cur[j]? = (l.flatMap (encP m))[j]? := by
        rw [← h7, List.getElem?_take_of_lt hj', Array.getElem?_toList]
      rw [e1, ← flatK_list, Array.getElem?_toList, Array.getElem?_eq_getElem hj, getElem!_pos (flatK (encP m) 3 l.toArray) j hj]
      rfl
    have eg : ∀ args w, (callFunc 51 args).run Try.prog w = .ok (.enter 51 args) w := enters_of Try.func51 (by kernel_rfl) rfl
    have hcmp : CmpLays Try.prog 51 #[] (encP m) 3 (cmpP m) g 0 l.toArray.size w := fun _ _ _ _ x y => closure_lays m x y _
    have hone : ∀ x, ∀ v ∈ encP m x, v.oneCell' = true := fun x v hv => by
      simp [encP] at hv
      rcases hv with rfl | rfl | rfl <;> rfl
    have hcon := AnyQ.slices_SortFunc Try.sortH 3 Try.isAgg107 Try.sizeOf107 (encP m) (fun _ => rfl) hone (cmpP m) (swoP m) 51 #[] g 0 cap l.toArray w eg hcmp hH (Array.getElem?_eq_some_iff.1 h3).1 (by simp; omega)
    refine hcon.mono fun e w' ⟨he, d', n, os, hp, hs, hw⟩ => ⟨he, d'.toList, ?_, ?_, ?_, ?_⟩
    · have h1 := hp.1
      have h2 := hp.2.2
      have e1 : d'.extract 0 l.toArray.size = d' := by rw [← h1]; simp
      have e2 : l.toArray.extract 0 l.toArray.size = l.toArray := by simp
      rw [e1, e2] at h2
      exact h2
    · rw [List.pairwise_iff_getElem]
      intro i j hi hj hij
      have hsz := hp.1
      have hi' : i < d'.size := by simpa using hi
      have hj' : j < d'.size := by simpa using hj
      have h8 := hs i j (Nat.zero_le _) hij (by rw [← hsz]; exact hj')
      rw [lt_cmp, getElem!_pos d' i hi', getElem!_pos d' j hj'] at h8
      simpa using h8
    · have hsz : d'.toList.length = l.length := by have := hp.1; simpa using this
      rw [hw]
      have hdd : d'.toList.toArray = d' := by simp
      have hfl : (flatK (encP m) 3 d').toList = d'.toList.flatMap (encP m) := by have := flatK_list m d'.toList; rw [hdd] at this; exact this
      have hfs : (flatK (encP m) 3 d').size = l.length * 3 := by rw [size_flatK]; have := hp.1; simp at this; rw [this]
      have hlt : g < w.heap.size := (Array.getElem?_eq_some_iff.1 h3).1
      have hheap : (sortWorldK (encP m) 3 w g 0 n d' os).heap[g]? = some (.cells (putCells id 0 (flatK (encP m) 3 d') cur) 107 (0, 0)) := by
        unfold sortWorldK putRowK
        rw [heap_grow_old _ _ (by simpa using hlt)]
        simp [putRow, mapBlock, Sort.ahead, Array.getElem?_modify, h3, onCells]
      refine ⟨by rw [flat_len (encP m) 3 (fun _ => rfl), hsz], Or.inr ⟨g, cap, _, rfl, h2, hheap, h4, h5, by simp [putCells, h6], ?_⟩⟩
      rw [← hfl]
      apply List.ext_getElem?
      intro j
      by_cases hj : j < l.length * 3
      · rw [List.getElem?_take_of_lt hj, Array.getElem?_toList, Array.getElem?_toList]
        have hjc : j < cur.size := by rw [h6]; have := Nat.mul_le_mul_right 3 h4; omega
        have hjf : j < (flatK (encP m) 3 d').size := by rw [hfs]; exact hj
        unfold putCells
        rw [Array.getElem?_mapIdx, Array.getElem?_eq_getElem hjc, Array.getElem?_eq_getElem hjf]
        simp only [Option.map_some, Nat.zero_le, Nat.zero_add, true_and, Nat.sub_zero, id]
        rw [if_pos hjf, getElem!_pos (flatK (encP m) 3 d') j hjf]
      · rw [List.getElem?_take_eq_none (by omega), List.getElem?_eq_none (by rw [Array.length_toList, hfs]; omega)]
    · rw [hw]
      have hlt : g < w.heap.size := (Array.getElem?_eq_some_iff.1 h3).1
      refine ⟨rfl, rfl, rfl, by simp [sortWorldK, putRowK, grow, Sort.ahead], fun k hk hne => ?_⟩
      unfold sortWorldK putRowK
      rw [heap_grow_old _ _ (by simpa using hk)]
      have : g ≠ k := fun e => hne e.symm
      simp [putRow, mapBlock, Sort.ahead, Array.getElem?_modify, this]
/-- ordered, whatever the family -/
theorem ordered_any (w : World) (bf : Nat) (m : Int) (d : MapD) (hlf : bf < w.heap.size) (hc0 : w.cell? ⟨bf, 0, none⟩ = some (.int .u64 m)) (m0 : 0 ≤ m) (m1 : m ≤ 18446744073709551615)
    (h : ValsIs w d.ref d.vals) (hks : ∀ p ∈ d.vals, p.1.size ≤ 64) (hn : d.vals.length ≤ 1099511627776) :
    Calls Try.prog 35 #[.pointer (some ⟨bf, 0, none⟩), mapV d] w fun e w' => OrderedPost w d.vals m e w' :=
  ordered_of sort_said w bf m d hlf hc0 m0 m1 h hks hn
end Go.Proofs.Ytagfghihnkkfiaa
