/- The reference's family in memory: lists of pairs, of maps, of iterators that are read. The walks of the reference's find, walk and Get. Rows of pairs: appends; the walk of the reference's without. The walk of the reference's Put. The walks of the reference's NewFamily and Contents. The walk of ref03.Equal on any two lists of pairs. Rows of maps; the walk of the reference's set. -/
import Derived.Test.YtagfghihnkkfiaaPlOne
import Derived.Test.YtagfghihnkkfiaaHashR
import Derived.Deep.QuietTactic
import Derived.BigQuiet
import Derived.Laws.AppendOwnNone
import Derived.Deep.CutBlock
import Derived.Deep.DeepCutAuto
import Derived.RegionTactic
namespace Go.Proofs.Ytagfghihnkkfiaa
set_option linter.unusedVariables false
set_option linter.unusedSimpArgs false
open Go Go.RowKit Go.MapKept
/-- pairs in one block of a set -/
def PrAt (T : Nat → Prop) (w : World) (A : Option Addr) (l : PL) : Prop :=
  0 < l.length → ∃ b, A = some ⟨b, 0, none⟩ ∧ T b ∧ b < w.heap.size ∧ ∀ j x, l[j]? = some x → w.cell? ⟨b, j * 2, none⟩ = some (.string x.1) ∧ w.cell? ⟨b, j * 2 + 1, none⟩ = some (.int .u64 x.2)
def MapsAt (T : Nat → Prop) (w : World) (A : Option Addr) (ms : List RMap) : Prop :=
  0 < ms.length → ∃ b, A = some ⟨b, 0, none⟩ ∧ T b ∧ b < w.heap.size ∧ ∀ i d, ms[i]? = some d → ∃ u c, w.cell? ⟨b, i * 3, none⟩ = some (.int .i64 d.num) ∧ w.cell? ⟨b, i * 3 + 1, none⟩ = some (.bool d.ro) ∧ w.cell? ⟨b, i * 3 + 2, none⟩ = some (.slice u d.pairs.length c) ∧ PrAt T w u d.pairs
def WlkAt (T : Nat → Prop) (w : World) (A : Option Addr) (ws : List (Int × IterD)) : Prop :=
  0 < ws.length → ∃ b, A = some ⟨b, 0, none⟩ ∧ T b ∧ b < w.heap.size ∧ ∀ i d, ws[i]? = some d → w.cell? ⟨b, i * 4, none⟩ = some (.int .i64 d.1) ∧ w.cell? ⟨b, i * 4 + 1, none⟩ = some (.int .i64 d.2.thread) ∧ w.cell? ⟨b, i * 4 + 2, none⟩ = some (.int .i64 d.2.number) ∧ w.cell? ⟨b, i * 4 + 3, none⟩ = some (.int .i64 d.2.pos)
/-- bounds of a family -/
structure RFit (g : RFam) : Prop where
  m0 : 0 ≤ g.mask
  m1 : g.mask ≤ 18446744073709551615
  lm : g.maps.length ≤ 1048576
  lw : g.walks.length ≤ 1048576
  lp : ∀ d ∈ g.maps, d.pairs.length ≤ 1048576
  keys : ∀ d ∈ g.maps, ∀ x ∈ d.pairs, x.1.size ≤ 64
  pos : ∀ p ∈ g.walks, 0 ≤ p.2.pos ∧ p.2.pos ≤ 1048576
structure RFamAt (T : Nat → Prop) (w : World) (A D : Option Addr) (g : RFam) : Prop where
  maps : MapsAt T w A g.maps
  walks : WlkAt T w D g.walks
  fit : RFit g
/-- what lies in the set has not changed -/
structure Kept (T : Nat → Prop) (w w' : World) : Prop where
  size : w.heap.size ≤ w'.heap.size
  block : ∀ b, T b → b < w.heap.size → w'.heap[b]? = w.heap[b]?
theorem Kept.refl (T : Nat → Prop) (w : World) : Kept T w w := ⟨Nat.le_refl _, fun _ _ _ => rfl⟩
theorem Kept.trans {T : Nat → Prop} {a b c : World} (h : Kept T a b) (k : Kept T b c) : Kept T a c := ⟨Nat.le_trans h.size k.size, fun i hi hz => (k.block i hi (Nat.lt_of_lt_of_le hz h.size)).trans (h.block i hi hz)⟩
theorem Kept.of_below {T : Nat → Prop} {a b : World} (h : Below a.heap.size a b) : Kept T a b := ⟨h.size, fun i _ hi => h.block i hi⟩
theorem Kept.of_only {T S : Nat → Prop} {a b : World} (h : Only S a b) (hd : ∀ i, T i → ¬ S i) : Kept T a b := ⟨h.size, fun i hi hz => h.block i hz (hd i hi)⟩
theorem PrAt.keep {T : Nat → Prop} {w w' : World} {A : Option Addr} {l : PL} (h : PrAt T w A l) (k : Kept T w w') : PrAt T w' A l := fun h0 => by
  obtain ⟨b, hA, hT, hz, hc⟩ := h h0
  have e := k.block b hT hz
  exact ⟨b, hA, hT, Nat.lt_of_lt_of_le hz k.size, fun j x hx => ⟨(World.cell?_of_block e).trans (hc j x hx).1, (World.cell?_of_block e).trans (hc j x hx).2⟩⟩
theorem MapsAt.keep {T : Nat → Prop} {w w' : World} {A : Option Addr} {l : List RMap} (h : MapsAt T w A l) (k : Kept T w w') : MapsAt T w' A l := fun h0 => by
  obtain ⟨b, hA, hT, hz, hc⟩ := h h0
  have e := k.block b hT hz
  refine ⟨b, hA, hT, Nat.lt_of_lt_of_le hz k.size, fun j x hx => ?_⟩
  obtain ⟨u, c, c0, c1, c2, c3⟩ := hc j x hx
  exact ⟨u, c, (World.cell?_of_block e).trans c0, (World.cell?_of_block e).trans c1, (World.cell?_of_block e).trans c2, c3.keep k⟩
theorem WlkAt.keep {T : Nat → Prop} {w w' : World} {A : Option Addr} {l : List (Int × IterD)} (h : WlkAt T w A l) (k : Kept T w w') : WlkAt T w' A l := fun h0 => by
  obtain ⟨b, hA, hT, hz, hc⟩ := h h0
  have e := k.block b hT hz
  refine ⟨b, hA, hT, Nat.lt_of_lt_of_le hz k.size, fun j x hx => ?_⟩
  obtain ⟨c0, c1, c2, c3⟩ := hc j x hx
  exact ⟨(World.cell?_of_block e).trans c0, (World.cell?_of_block e).trans c1, (World.cell?_of_block e).trans c2, (World.cell?_of_block e).trans c3⟩
theorem RFamAt.keep {T : Nat → Prop} {w w' : World} {A D : Option Addr} {g : RFam} (h : RFamAt T w A D g) (k : Kept T w w') : RFamAt T w' A D g := ⟨h.maps.keep k, h.walks.keep k, h.fit⟩
theorem RFamAt.below {T : Nat → Prop} {w w' : World} {A D : Option Addr} {g : RFam} (h : RFamAt T w A D g) (hb : Below w.heap.size w w') : RFamAt T w' A D g := h.keep (Kept.of_below hb)
theorem PrAt.more {T T' : Nat → Prop} {w : World} {A : Option Addr} {l : PL} (h : PrAt T w A l) (k : ∀ i, T i → T' i) : PrAt T' w A l := fun h0 => by
  obtain ⟨b, hA, hT, hz, hc⟩ := h h0
  exact ⟨b, hA, k b hT, hz, hc⟩
theorem MapsAt.more {T T' : Nat → Prop} {w : World} {A : Option Addr} {l : List RMap} (h : MapsAt T w A l) (k : ∀ i, T i → T' i) : MapsAt T' w A l := fun h0 => by
  obtain ⟨b, hA, hT, hz, hc⟩ := h h0
  refine ⟨b, hA, k b hT, hz, fun j x hx => ?_⟩
  obtain ⟨u, c, c0, c1, c2, c3⟩ := hc j x hx
  exact ⟨u, c, c0, c1, c2, c3.more k⟩
theorem WlkAt.more {T T' : Nat → Prop} {w : World} {A : Option Addr} {l : List (Int × IterD)} (h : WlkAt T w A l) (k : ∀ i, T i → T' i) : WlkAt T' w A l := fun h0 => by
  obtain ⟨b, hA, hT, hz, hc⟩ := h h0
  exact ⟨b, hA, k b hT, hz, hc⟩
theorem RFamAt.more {T T' : Nat → Prop} {w : World} {A D : Option Addr} {g : RFam} (h : RFamAt T w A D g) (k : ∀ i, T i → T' i) : RFamAt T' w A D g := ⟨h.maps.more k, h.walks.more k, h.fit⟩
/-- the family's value: three cells -/
def rfamV (g : RFam) (A : Option Addr) (c : Nat) (D : Option Addr) (d : Nat) : Value := .agg #[.int .u64 g.mask, .slice A g.maps.length c, .slice D g.walks.length d]
theorem refnum_any (t i : Int) (w : World) (ht : -9223372036854775808 ≤ t ∧ t ≤ 9223372036854775807) (hi : -9223372036854775808 ≤ i ∧ i ≤ 9223372036854775807) :
    Calls Try.prog 12 #[.int .i64 t, .int .i64 i] w fun e w' => e = .returned (.int .i64 (numberOf t i)) ∧ w = w' := by
  by_cases h1 : t < 0
  · have X := Lib.hid (show numberOf t i = -1 by unfold numberOf; rw [if_pos (by omega)])
    go_enter Try.func12, Try.ntmps12
    go_wp2
    go_ret
    exact ⟨ret_int X.out.symm, rfl⟩
  by_cases h2 : 8 ≤ t
  · have X := Lib.hid (show numberOf t i = -1 by unfold numberOf; rw [if_pos (by omega)])
    go_enter Try.func12, Try.ntmps12
    go_wp2
    go_ret
    exact ⟨ret_int X.out.symm, rfl⟩
  by_cases h3 : i < 0
  · have X := Lib.hid (show numberOf t i = -1 by unfold numberOf; rw [if_pos (by omega)])
    go_enter Try.func12, Try.ntmps12
    go_wp2
    go_ret
    exact ⟨ret_int X.out.symm, rfl⟩
  by_cases h4 : 16 ≤ i
  · have X := Lib.hid (show numberOf t i = -1 by unfold numberOf; rw [if_pos (by omega)])
    go_enter Try.func12, Try.ntmps12
    go_wp2
    go_ret
    exact ⟨ret_int X.out.symm, rfl⟩
  · have X := Lib.hid (show numberOf t i = 1 + t * 16 + i by unfold numberOf; rw [if_neg (by omega)])
    have e1 : IntKind.i64.wrap (t * 16) = t * 16 := IntWalk.i64_in _ (by omega)
    have e2 : IntKind.i64.wrap (1 + t * 16) = 1 + t * 16 := IntWalk.i64_in _ (by omega)
    have e3 : IntKind.i64.wrap (1 + t * 16 + i) = 1 + t * 16 + i := IntWalk.i64_in _ (by omega)
    go_enter Try.func12, Try.ntmps12
    go_wp2
    go_ret
    exact ⟨ret_int X.out.symm, rfl⟩
end Go.Proofs.Ytagfghihnkkfiaa
namespace Go.Proofs.Ytagfghihnkkfiaa
set_option linter.unusedVariables false
set_option linter.unusedSimpArgs false
open Go Go.RowKit Go.MapKept
theorem idxO_map {α : Type} (x : Option (Nat × α)) (j : Nat) (h : x = none) : idxO (x.map (fun p => (p.1 + j, p.2))) = -1 := by subst h; rfl
theorem findM_skip (ms : List RMap) (n : Int) : ∀ j, j ≤ ms.length → (∀ k d, k < j → ms[k]? = some d → d.num ≠ n) → findM ms n = (findM (ms.drop j) n).map (fun p => (p.1 + j, p.2)) := by
  induction ms with
  | nil => intro j hj h; have : j = 0 := by simpa using hj
           subst this; rfl
  | cons a r ih =>
    intro j hj h
    cases j with
    | zero => simp
    | succ j =>
      have h0 : a.num ≠ n := h 0 a (by omega) (by simp)
      have := ih j (by simpa using hj) (fun k d hk hd => h (k + 1) d (by omega) (by simpa using hd))
      simp only [findM, if_neg h0, List.drop_succ_cons]
      rw [this, Option.map_map]
      congr 1
theorem findM_hit {ms : List RMap} {n : Int} {j : Nat} {d : RMap} (hd : ms[j]? = some d) (hn : d.num = n) (h : ∀ k x, k < j → ms[k]? = some x → x.num ≠ n) : findM ms n = some (j, d) := by
  obtain ⟨hj, e⟩ := List.getElem?_eq_some_iff.1 hd
  rw [findM_skip ms n j (by omega) h, List.drop_eq_getElem_cons hj, e]
  simp [findM, hn]
theorem findM_miss {ms : List RMap} {n : Int} (h : ∀ k x, k < ms.length → ms[k]? = some x → x.num ≠ n) : findM ms n = none := by
  rw [findM_skip ms n ms.length (by omega) h]
  simp [findM]
theorem findW_skip (ms : List (Int × IterD)) (n : Int) : ∀ j, j ≤ ms.length → (∀ k d, k < j → ms[k]? = some d → d.1 ≠ n) → findW ms n = (findW (ms.drop j) n).map (fun p => (p.1 + j, p.2)) := by
  induction ms with
  | nil => intro j hj h; have : j = 0 := by simpa using hj
           subst this; rfl
  | cons a r ih =>
    intro j hj h
    cases j with
    | zero => simp
    | succ j =>
      have h0 : a.1 ≠ n := h 0 a (by omega) (by simp)
      have := ih j (by simpa using hj) (fun k d hk hd => h (k + 1) d (by omega) (by simpa using hd))
      simp only [findW, if_neg h0, List.drop_succ_cons]
      rw [this, Option.map_map]
      congr 1
theorem findW_hit {ms : List (Int × IterD)} {n : Int} {j : Nat} {d : Int × IterD} (hd : ms[j]? = some d) (hn : d.1 = n) (h : ∀ k x, k < j → ms[k]? = some x → x.1 ≠ n) : findW ms n = some (j, d.2) := by
  obtain ⟨hj, e⟩ := List.getElem?_eq_some_iff.1 hd
  rw [findW_skip ms n j (by omega) h, List.drop_eq_getElem_cons hj, e]
  simp [findW, hn]
theorem findW_miss {ms : List (Int × IterD)} {n : Int} (h : ∀ k x, k < ms.length → ms[k]? = some x → x.1 ≠ n) : findW ms n = none := by
  rw [findW_skip ms n ms.length (by omega) h]
  simp [findW]
def FRelM (ms : List RMap) (n : Int) (i : Value) : Prop := ∃ j : Nat, j ≤ ms.length ∧ i = .int .i64 j ∧ ∀ k x, k < j → ms[k]? = some x → x.num ≠ n
def FRelW (ms : List (Int × IterD)) (n : Int) (i : Value) : Prop := ∃ j : Nat, j ≤ ms.length ∧ i = .int .i64 j ∧ ∀ k x, k < j → ms[k]? = some x → x.1 ≠ n
set_option maxHeartbeats 1000000 in
theorem find_any (T : Nat → Prop) (w : World) (A D : Option Addr) (c d : Nat) (g : RFam) (h : RFamAt T w A D g) (n : Int) :
    Calls Try.prog 42 #[rfamV g A c D d, .int .i64 n] w fun e w' => e = .returned (.int .i64 (idxO (findM g.maps n))) ∧ Below w.heap.size w w' := by
  have HM := Lib.hid h.maps
  have hl : g.maps.length ≤ 1048576 := h.fit.lm
  obtain ⟨m, ms, ws⟩ := g
  simp only at HM hl
  have BX := Lib.hid ((Below.refl w.heap.size w).alloc (Nat.le_refl _) (.cells #[.int .u64 m, .slice A ms.length c, .slice D ws.length d] 59))
  clear h
  simp only [rfamV]
  go_enter Try.func42, Try.ntmps42
  go_wp2_with fail
  go_loop [5] (fun i => FRelM ms n i) (fun i => ms.length - (intOf i).toNat)
  case atStart => exact ⟨0, by omega, rfl, fun k x hk => by omega⟩
  case round =>
    obtain ⟨j, hj, rfl, hne⟩ := hrel
    have NE := Lib.hid hne
    clear hne
    by_cases hlt : j < ms.length
    · obtain ⟨x, hx⟩ : ∃ x, ms[j]? = some x := ⟨_, List.getElem?_eq_getElem hlt⟩
      obtain ⟨b, rfl, hT, hb, hc⟩ := HM.out (by omega)
      obtain ⟨u, cu, c0, c1, c2, c3⟩ := hc j x hx
      have hj0 : (0 : Int) ≤ j := by omega
      have hj1 : (j : Int) < ms.length := by omega
      have HX := Lib.hid hx
      clear hx hc c3
      by_cases hn : x.num = n
      · have R := Lib.hid (findM_hit HX.out hn NE.out)
        have hnb : (x.num == n) = true := by simp [hn]
        go_wp2_with fail
        go_ret
        refine ⟨?_, BX.out⟩
        rw [R.out]
        rfl
      · have hnb : (x.num == n) = false := by simp [hn]
        have HN := Lib.hid hn
        clear hn
        go_wp2_with fail
        go_round
        case rel =>
          refine ⟨j + 1, by omega, by go_num, fun k y hk hy => ?_⟩
          by_cases hkj : k = j
          · subst hkj
            rw [HX.out] at hy
            obtain rfl := Option.some.inj hy
            exact HN.out
          · exact NE.out k y (by omega) hy
        case measure => simp [intOf]; omega
    · have R := Lib.hid (findM_miss (ms := ms) (n := n) fun k x hk => NE.out k x (by omega))
      go_wp2_with fail
      go_ret
      refine ⟨?_, BX.out⟩
      rw [R.out]
      rfl
set_option maxHeartbeats 1000000 in
theorem walk_any (T : Nat → Prop) (w : World) (A D : Option Addr) (c d : Nat) (g : RFam) (h : RFamAt T w A D g) (n : Int) :
    Calls Try.prog 44 #[rfamV g A c D d, .int .i64 n] w fun e w' => e = .returned (.int .i64 (idxO (findW g.walks n))) ∧ Below w.heap.size w w' := by
  have HM := Lib.hid h.walks
  have hl : g.walks.length ≤ 1048576 := h.fit.lw
  obtain ⟨m, ms, ws⟩ := g
  simp only at HM hl
  have BX := Lib.hid ((Below.refl w.heap.size w).alloc (Nat.le_refl _) (.cells #[.int .u64 m, .slice A ms.length c, .slice D ws.length d] 59))
  clear h
  simp only [rfamV]
  go_enter Try.func44, Try.ntmps44
  go_wp2_with fail
  go_loop [5] (fun i => FRelW ws n i) (fun i => ws.length - (intOf i).toNat)
  case atStart => exact ⟨0, by omega, rfl, fun k x hk => by omega⟩
  case round =>
    obtain ⟨j, hj, rfl, hne⟩ := hrel
    have NE := Lib.hid hne
    clear hne
    by_cases hlt : j < ws.length
    · obtain ⟨x, hx⟩ : ∃ x, ws[j]? = some x := ⟨_, List.getElem?_eq_getElem hlt⟩
      obtain ⟨b, rfl, hT, hb, hc⟩ := HM.out (by omega)
      obtain ⟨c0, c1, c2, c3⟩ := hc j x hx
      have hj0 : (0 : Int) ≤ j := by omega
      have hj1 : (j : Int) < ws.length := by omega
      have HX := Lib.hid hx
      clear hx hc c1 c2 c3
      by_cases hn : x.1 = n
      · have R := Lib.hid (findW_hit HX.out hn NE.out)
        have hnb : (x.1 == n) = true := by simp [hn]
        go_wp2_with fail
        go_ret
        refine ⟨?_, BX.out⟩
        rw [R.out]
        rfl
      · have hnb : (x.1 == n) = false := by simp [hn]
        have HN := Lib.hid hn
        clear hn
        go_wp2_with fail
        go_round
        case rel =>
          refine ⟨j + 1, by omega, by go_num, fun k y hk hy => ?_⟩
          by_cases hkj : k = j
          · subst hkj
            rw [HX.out] at hy
            obtain rfl := Option.some.inj hy
            exact HN.out
          · exact NE.out k y (by omega) hy
        case measure => simp [intOf]; omega
    · have R := Lib.hid (findW_miss (ms := ws) (n := n) fun k x hk => NE.out k x (by omega))
      go_wp2_with fail
      go_ret
      refine ⟨?_, BX.out⟩
      rw [R.out]
      rfl
theorem alook_hit {l : PL} {k : ByteArray} {j : Nat} {x : ByteArray × Int} (hx : l[j]? = some x) (hk : x.1 = k) (h : ∀ i y, i < j → l[i]? = some y → y.1 ≠ k) : alook l k = some x.2 := by
  induction l generalizing j with
  | nil => simp at hx
  | cons p r ih =>
    obtain ⟨a, b⟩ := p
    cases j with
    | zero =>
      simp only [List.getElem?_cons_zero, Option.some.injEq] at hx
      subst hx
      have : a = k := hk
      simp [alook, this]
    | succ j =>
      have h0 : a ≠ k := h 0 (a, b) (by omega) (by simp)
      simp only [alook, if_neg h0]
      exact ih (by simpa using hx) fun i y hi hy => h (i + 1) y (by omega) (by simpa using hy)
theorem alook_miss {l : PL} {k : ByteArray} (h : ∀ i y, i < l.length → l[i]? = some y → y.1 ≠ k) : alook l k = none := by
  refine alook_none fun p hp => ?_
  obtain ⟨i, hi, e⟩ := List.getElem_of_mem hp
  exact h i p hi (by rw [List.getElem?_eq_getElem hi, e])
def GRel (l : PL) (k : ByteArray) (i : Value) : Prop := ∃ j : Nat, j ≤ l.length ∧ i = .int .i64 j ∧ ∀ i y, i < j → l[i]? = some y → y.1 ≠ k
set_option maxHeartbeats 1000000 in
theorem get_any (T : Nat → Prop) (w : World) (A : Option Addr) (c : Nat) (l : PL) (h : PrAt T w A l) (hl : l.length ≤ 1048576) (k : ByteArray) :
    Calls Try.prog 57 #[.slice A l.length c, .string k] w fun e w' => e = .returned (.tuple #[.int .u64 ((alook l k).getD 0), .bool (alook l k).isSome]) ∧ w' = w := by
  have H := Lib.hid h
  clear h
  go_enter Try.func57, Try.ntmps57
  go_wp2_with fail
  go_loop [6] (fun i => GRel l k i) (fun i => l.length - (intOf i).toNat)
  case atStart => exact ⟨0, by omega, rfl, fun k x hk => by omega⟩
  case round =>
    obtain ⟨j, hj, rfl, hne⟩ := hrel
    have NE := Lib.hid hne
    clear hne
    by_cases hlt : j < l.length
    · obtain ⟨x, hx⟩ : ∃ x, l[j]? = some x := ⟨_, List.getElem?_eq_getElem hlt⟩
      obtain ⟨b, rfl, hT, hb, hc⟩ := H.out (by omega)
      obtain ⟨c0, c1⟩ := hc j x hx
      have hj0 : (0 : Int) ≤ j := by omega
      have hj1 : (j : Int) < l.length := by omega
      have HX := Lib.hid hx
      clear hx hc
      by_cases hn : x.1 = k
      · have R := Lib.hid (alook_hit HX.out hn NE.out)
        have hnb : (x.1.toList == k.toList) = true := by simp [hn]
        clear hn
        go_wp2_with fail
        go_ret2
        refine ⟨?_, rfl⟩
        rw [R.out]
        rfl
      · have hnb : (x.1.toList == k.toList) = false := beq_eq_false_iff_ne.2 fun e => hn (bytes_ext _ _ e)
        have HN := Lib.hid hn
        clear hn
        go_wp2_with fail
        go_round
        case rel =>
          refine ⟨j + 1, by omega, by go_num, fun i y hk hy => ?_⟩
          by_cases hkj : i = j
          · subst hkj
            rw [HX.out] at hy
            obtain rfl := Option.some.inj hy
            exact HN.out
          · exact NE.out i y (by omega) hy
        case measure => simp [intOf]; omega
    · have R := Lib.hid (alook_miss (l := l) (k := k) fun i x hk => NE.out i x (by omega))
      go_wp2_with fail
      go_ret2
      refine ⟨?_, rfl⟩
      rw [R.out]
      rfl
end Go.Proofs.Ytagfghihnkkfiaa
namespace Go.Proofs.Ytagfghihnkkfiaa
set_option linter.unusedVariables false
set_option linter.unusedSimpArgs false
open Go Go.RowKit Go.MapKept
theorem info_parts3 {e : TypeId} {z : Value} {sz by8 : Nat} (h : (Try.prog.info? e).map (fun i => (i.zero, i.size, i.bytes)) = some (some z, sz, by8)) : ∃ i, Try.prog.info? e = some i ∧ i.zero = some z ∧ i.size = sz ∧ i.bytes = by8 := by
  obtain ⟨i, hi, e⟩ := Option.map_eq_some_iff.1 h
  simp only [Prod.mk.injEq] at e
  exact ⟨i, hi, e.1, e.2.1, e.2.2⟩
theorem row_form {w : World} {B size n : Nat} {e : TypeId} {v : Value} {xs : List Value} (h : w.ownsRow B e size v n xs) : ∃ a cap, v = .slice a n cap := by
  rcases h.2 with ⟨rfl, h0⟩ | ⟨g, cap, cur, rfl, _⟩
  · exact ⟨none, 0, by rw [h0]⟩
  · exact ⟨_, cap, rfl⟩
theorem row_kind {w : World} {B size n : Nat} {e : TypeId} {v : Value} {xs : List Value} (h : w.ownsRow B e size v n xs) {g : Nat} (hg : v.ownBlock = some g) : B ≤ g ∧ ∃ cur, w.heap[g]? = some (.cells cur e (0, 0)) := by
  rcases h.2 with ⟨h0, _⟩ | ⟨k, cap, cur, hv, hb, hk, _⟩
  · rw [h0] at hg; simp [Value.ownBlock] at hg
  · rw [hv] at hg
    simp only [Value.ownBlock, Option.some.injEq] at hg
    subst hg
    exact ⟨hb, cur, hk⟩
theorem row_lt {w : World} {B size n : Nat} {e : TypeId} {v : Value} {xs : List Value} (h : w.ownsRow B e size v n xs) {g : Nat} (hg : v.ownBlock = some g) : g < w.heap.size := by
  obtain ⟨_, cur, hc⟩ := row_kind h hg
  exact (Array.getElem?_eq_some_iff.1 hc).1
theorem row_some {w : World} {B size n : Nat} {e : TypeId} {v : Value} {xs : List Value} (h : w.ownsRow B e size v n xs) (hn : 0 < n) : ∃ g cap, v = .slice (some ⟨g, 0, none⟩) n cap := by
  rcases h.2 with ⟨rfl, h0⟩ | ⟨g, cap, cur, rfl, _⟩
  · omega
  · exact ⟨g, cap, rfl⟩
theorem grown_block {w w' : World} {o : Obj} {row : Option Nat} (hg : (w.alloc o).grownBy w' row) {k : Nat} (hk : k < w.heap.size) (hr : row ≠ some k) : w'.heap[k]? = w.heap[k]? := by
  rw [hg.block k (by simp; omega) (fun e => hr e.symm), Below.heap_alloc _ _ _ hk]
theorem grown_below {w w' : World} {o : Obj} {row : Option Nat} {B : Nat} (hg : (w.alloc o).grownBy w' row) (hB : B ≤ w.heap.size) (hr : ∀ k, row = some k → B ≤ k) : Below B w w' :=
  ((Below.refl _ _).alloc hB o).grown hg (by simp; omega) hr
theorem row_le {w : World} {b b' size n : Nat} {e : TypeId} {v : Value} {xs : List Value} (h : w.ownsRow b e size v n xs) (hb : b' ≤ b) : w.ownsRow b' e size v n xs :=
  ⟨h.1, h.2.elim Or.inl (fun ⟨g, cap, cur, hv, hg, r⟩ => Or.inr ⟨g, cap, cur, hv, Nat.le_trans hb hg, r⟩)⟩

theorem raddr (g n : Nat) : ((⟨g, 0, none⟩ : Addr).add n) = ⟨g, n, none⟩ := by
  unfold Addr.add
  split
  · subst n; rfl
  · simp
/-- the walk stops here -/
def StopAt (p : Prop) : Prop := p
theorem stopAt {p : Prop} (h : StopAt p) : p := h
/-- an append of any number of elements to an own row -/
theorem wpList_app {ops : Array Oper} {rest : List Oper} {o : Oper} {a : Act} {Q : Exit → Act → World → Prop} (T e : TypeId) (hT : Try.prog.underlying T = some (.slice e)) (z : Value) (sz by8 : Nat) (hinfo : (Try.prog.info? e).map (fun i => (i.zero, i.size, i.bytes)) = some (some z, sz, by8)) (hz : z.cells.size = sz) (h0 : 0 < sz)
    (hgd : o.guard = none) (s x : Operand) (ho : o.op = .call { callee := .builtin .append, args := #[s, x], argTypes := #[T, T] })
    (B : Nat) (w : World) (v : Value) (n : Nat) (xs : List Value) (hs : a.eval s = v) (hown : w.ownsRow B e sz v n xs) (ad : Addr) (m c : Nat) (ys : List Value) (hx : a.eval x = .slice (some ad) m c) (hl : ys.length = m * sz)
    (hc : ∀ j u, ys[j]? = some u → w.cell? (ad.add j) = some u) (h1 : ∀ u ∈ ys, u.oneCell' = true) (hB : B ≤ w.heap.size) (hm : n + m ≤ maxLen) (hlen : (n + m) * by8 ≤ 140737488355328)
    (h : ∀ a' cap' w', w'.ownsRow B e sz (.slice a' (n + m) cap') (n + m) (xs ++ ys) → w.grownBy w' v.ownBlock → wpList Try.prog ops Q rest (a.put o.dst (.slice a' (n + m) cap')) w') : wpList Try.prog ops Q (o :: rest) a w := by
  obtain ⟨i0, hi, hz0, hz1, hz2⟩ := info_parts3 hinfo
  refine wpList_append_own _ hgd s x T ho B e i0 z sz by8 hT hi hz0 hz1 hz2 hz h0 v n xs hs hown ad m c ys hx hl hc h1 hm hlen hB ?_
  intro v' w' ho' hg _
  obtain ⟨a', cap', rfl⟩ := row_form ho'
  exact h a' cap' w' ho' hg
def prC (x : ByteArray × Int) : List Value := [.string x.1, .int .u64 x.2]
theorem prC_len (l : PL) : (l.flatMap prC).length = l.length * 2 := by
  induction l with
  | nil => rfl
  | cons x r ih => simp [prC, ih]; omega
theorem prC_one (l : PL) : ∀ u ∈ l.flatMap prC, u.oneCell' = true := by
  intro u hu
  obtain ⟨x, _, hx⟩ := List.mem_flatMap.1 hu
  simp only [prC, List.mem_cons, List.not_mem_nil, or_false] at hx
  rcases hx with rfl | rfl <;> rfl
theorem prC_at (l : PL) (j : Nat) (x : ByteArray × Int) (hx : l[j]? = some x) : (l.flatMap prC)[j * 2]? = some (.string x.1) ∧ (l.flatMap prC)[j * 2 + 1]? = some (.int .u64 x.2) := by
  induction l generalizing j with
  | nil => simp at hx
  | cons y r ih =>
    cases j with
    | zero =>
      simp only [List.getElem?_cons_zero, Option.some.injEq] at hx
      subst hx
      simp [prC]
    | succ j =>
      have := ih j (by simpa using hx)
      rw [List.flatMap_cons]
      have e : (prC y).length = 2 := rfl
      rw [List.getElem?_append_right (by rw [e]; omega), List.getElem?_append_right (by rw [e]; omega), e, show (j + 1) * 2 - 2 = j * 2 by omega, show (j + 1) * 2 + 1 - 2 = j * 2 + 1 by omega]
      exact this
/-- the cells of pairs that are read -/
theorem prC_cells (l : PL) (w : World) (b off : Nat) (h : ∀ j x, l[j]? = some x → w.cell? ⟨b, off + j * 2, none⟩ = some (.string x.1) ∧ w.cell? ⟨b, off + j * 2 + 1, none⟩ = some (.int .u64 x.2)) :
    ∀ j u, (l.flatMap prC)[j]? = some u → w.cell? ((⟨b, off, none⟩ : Addr).add j) = some u := by
  intro j u hu
  have hj : j < l.length * 2 := by rw [← prC_len]; exact (List.getElem?_eq_some_iff.1 hu).1
  obtain ⟨x, hx⟩ : ∃ x, l[j / 2]? = some x := ⟨_, List.getElem?_eq_getElem (by omega)⟩
  have hp := prC_at l (j / 2) x hx
  have hc := h (j / 2) x hx
  have ea : ((⟨b, off, none⟩ : Addr).add j) = ⟨b, off + j, none⟩ := by simp [Addr.add]
  rw [ea]
  by_cases he : j % 2 = 0
  · have e : j = j / 2 * 2 := by omega
    have e2 : w.cell? ⟨b, off + j, none⟩ = w.cell? ⟨b, off + j / 2 * 2, none⟩ := by rw [← e]
    rw [e2, hc.1]
    rw [show (l.flatMap prC)[j]? = (l.flatMap prC)[j / 2 * 2]? by rw [← e], hp.1] at hu
    exact hu
  · have e : j = j / 2 * 2 + 1 := by omega
    have e2 : w.cell? ⟨b, off + j, none⟩ = w.cell? ⟨b, off + j / 2 * 2 + 1, none⟩ := by rw [show off + j / 2 * 2 + 1 = off + j by omega]
    rw [e2, hc.2]
    rw [show (l.flatMap prC)[j]? = (l.flatMap prC)[j / 2 * 2 + 1]? by rw [← e], hp.2] at hu
    exact hu
theorem pr_info : (Try.prog.info? 45).map (fun i => (i.zero, i.size, i.bytes)) = some (some (.agg #[.string ⟨#[]⟩, .int .u64 0]), 2, 24) := by kernel_rfl
/-- blocks made since w -/
def NewB (w w' : World) (b : Nat) : Prop := w.heap.size ≤ b ∧ b < w'.heap.size
theorem prAt_of_row {w0 w : World} {A : Option Addr} {n c : Nat} {l : PL} (h : w.ownsRow w0.heap.size 45 2 (.slice A n c) n (l.flatMap prC)) (hn : n = l.length) : PrAt (NewB w0 w) w A l := fun h0 => by
  obtain ⟨g, cap, hv⟩ := row_some h (by omega)
  simp only [Value.slice.injEq, true_and] at hv
  obtain ⟨rfl, rfl⟩ := hv
  refine ⟨g, rfl, ⟨(row_kind h (g := g) rfl).1, row_lt h rfl⟩, row_lt h rfl, fun j x hx => ?_⟩
  have hp := prC_at l j x hx
  have c1 := h.cells (g := g) rfl (j * 2) _ hp.1
  have c2 := h.cells (g := g) rfl (j * 2 + 1) _ hp.2
  rw [raddr] at c1 c2
  exact ⟨c1, c2⟩
def WoRel (w : World) (l : PL) (k : ByteArray) (v i : Value) (wr : World) : Prop :=
  ∃ j : Nat, j ≤ l.length ∧ i = .int .i64 j ∧ wr.ownsRow w.heap.size 45 2 v (withoutR (l.take j) k).length ((withoutR (l.take j) k).flatMap prC) ∧ Below w.heap.size w wr
def WoPost (w : World) (l : PL) (e : Ending) (w' : World) : Prop :=
  ∃ (A : Option Addr) (c : Nat), e = .returned (.slice A l.length c) ∧ w'.ownsRow w.heap.size 45 2 (.slice A l.length c) l.length (l.flatMap prC) ∧ Below w.heap.size w w'
theorem without_take {l : PL} {k : ByteArray} {j : Nat} {x : ByteArray × Int} (hx : l[j]? = some x) : withoutR (l.take (j + 1)) k = withoutR (l.take j) k ++ (if x.1 = k then [] else [x]) := by
  rw [List.take_add_one, hx]
  simp only [Option.toList_some, withoutR, List.filter_append]
  congr 1
  by_cases h : x.1 = k <;> simp [h]
set_option maxRecDepth 100000 in
set_option maxHeartbeats 2000000 in
theorem without_any (T : Nat → Prop) (w : World) (A : Option Addr) (c : Nat) (l : PL) (h : PrAt T w A l) (hl : l.length ≤ 1048576) (k : ByteArray) :
    Calls Try.prog 59 #[.slice A l.length c, .string k] w (WoPost w (withoutR l k)) := by
  have H := Lib.hid h
  clear h
  go_enter Try.func59, Try.ntmps59
  go_wp2_with fail
  go_loopw [5, 6] (fun v i wr => WoRel w l k v i wr) (fun _ i _ => l.length - (intOf i).toNat)
  case atStart => exact ⟨0, by omega, rfl, World.ownsRow_nil _ _ _ _, Below.refl _ _⟩
  case round =>
    obtain ⟨j, hj, rfl, hown, hbw⟩ := hrel
    have HO := Lib.hid hown
    have HB := Lib.hid hbw
    have hsz : w.heap.size ≤ wr.heap.size := hbw.size
    have hln : (withoutR (l.take j) k).length ≤ 1048576 := Nat.le_trans (List.length_filter_le _ _) (by rw [List.length_take]; omega)
    clear hown hbw
    by_cases hlt : j < l.length
    · obtain ⟨x, hx⟩ : ∃ x, l[j]? = some x := ⟨_, List.getElem?_eq_getElem hlt⟩
      obtain ⟨b, hA, hT, hb, hc⟩ := H.out (by omega)
      subst hA
      obtain ⟨c0, c1⟩ := hc j x hx
      have eb := HB.out.block b hb
      have d0 := (World.cell?_of_block (a := ⟨b, j * 2, none⟩) eb).trans c0
      have d1 := (World.cell?_of_block (a := ⟨b, j * 2 + 1, none⟩) eb).trans c1
      have hbr : b < wr.heap.size := by omega
      have hj0 : (0 : Int) ≤ j := by omega
      have hj1 : (j : Int) < l.length := by omega
      have WT := Lib.hid (without_take (k := k) hx)
      clear hx hc c0 c1 eb
      generalize hR : withoutR (l.take j) k = R at *
      by_cases hn : x.1 = k
      · have hnb : (x.1.toList == k.toList) = true := by simp [hn]
        rw [if_pos hn, List.append_nil] at WT
        clear hn
        go_wp2_with fail
        go_roundw
        case rel =>
          refine ⟨j + 1, by omega, by go_num, ?_, HB.out⟩
          rw [WT.out]
          exact HO.out
        case measure => simp [intOf]; omega
      · have hnb : (x.1.toList == k.toList) = false := beq_eq_false_iff_ne.2 fun e => hn (bytes_ext _ _ e)
        rw [if_neg hn] at WT
        clear hn
        go_wp2_with (at_builtin; refine stopAt ?_)
        unfold StopAt
        refine wpList_app 41 45 Try.underlying41 _ 2 24 pr_info rfl (by decide) rfl _ _ rfl w.heap.size _ _ _ _ rfl (HO.out.alloc _) ⟨wr.heap.size, 0, none⟩ 1 1 (prC x) rfl rfl ?_ ?_ (by simp; omega) (by unfold maxLen; omega) (by omega) ?_
        · have := prC_cells [x] (wr.alloc (.cells #[.string x.1, .int .u64 x.2] 45)) wr.heap.size 0 (fun i y hy => ?_)
          · simpa using this
          · have hi : i = 0 := by
              have := (List.getElem?_eq_some_iff.1 hy).1
              simpa using this
            subst hi
            obtain rfl : x = y := by simpa using hy
            exact ⟨blk_cell (heap_alloc wr _).1 0, blk_cell (heap_alloc wr _).1 1⟩
        · have := prC_one [x]
          simpa using this
        intro a3 c3 w3 ho3 hg3
        have O3 := Lib.hid ho3
        have G3 := Lib.hid hg3
        clear ho3 hg3
        go_wp2_with fail
        go_roundw
        case rel =>
          refine ⟨j + 1, by omega, by go_num, ?_, HB.out.trans (grown_below G3.out HB.out.size (fun k hk => (row_kind HO.out hk).1))⟩
          rw [WT.out, List.length_append, List.flatMap_append]
          have := O3.out
          simpa using this
        case measure => simp [intOf]; omega
    · have hje : j = l.length := by omega
      have TA : l.take j = l := List.take_of_length_le (by omega)
      rw [TA] at HO
      have TT := Lib.hid TA
      clear TA
      obtain ⟨A2, c2, hv⟩ := row_form HO.out
      go_wp2_with fail
      go_ret
      subst hv
      exact ⟨A2, c2, rfl, HO.out, HB.out⟩
end Go.Proofs.Ytagfghihnkkfiaa
namespace Go.Proofs.Ytagfghihnkkfiaa
set_option linter.unusedVariables false
set_option linter.unusedSimpArgs false
open Go Go.RowKit Go.MapKept
/-- an append of a slice that may be nil -/
theorem wpList_appv {ops : Array Oper} {rest : List Oper} {o : Oper} {a : Act} {Q : Exit → Act → World → Prop} (T e : TypeId) (hT : Try.prog.underlying T = some (.slice e)) (z : Value) (sz by8 : Nat) (hinfo : (Try.prog.info? e).map (fun i => (i.zero, i.size, i.bytes)) = some (some z, sz, by8)) (hz : z.cells.size = sz) (h0 : 0 < sz)
    (hgd : o.guard = none) (s x : Operand) (ho : o.op = .call { callee := .builtin .append, args := #[s, x], argTypes := #[T, T] })
    (B : Nat) (w : World) (v : Value) (n : Nat) (xs : List Value) (hs : a.eval s = v) (hown : w.ownsRow B e sz v n xs) (A : Option Addr) (m c : Nat) (ys : List Value) (hx : a.eval x = .slice A m c) (hA : A = none → m = 0 ∧ c = 0) (hl : ys.length = m * sz)
    (hc : ∀ ad, A = some ad → ∀ j u, ys[j]? = some u → w.cell? (ad.add j) = some u) (h1 : ∀ u ∈ ys, u.oneCell' = true) (hB : B ≤ w.heap.size) (hm : n + m ≤ maxLen) (hlen : (n + m) * by8 ≤ 140737488355328)
    (h : ∀ v' w', w'.ownsRow B e sz v' (n + m) (xs ++ ys) → w.grownBy w' v.ownBlock → wpList Try.prog ops Q rest (a.put o.dst v') w') : wpList Try.prog ops Q (o :: rest) a w := by
  cases A with
  | some ad => exact wpList_app T e hT z sz by8 hinfo hz h0 hgd s x ho B w v n xs hs hown ad m c ys hx hl (hc ad rfl) h1 hB hm hlen fun a' c' w' h2 h3 => h _ w' h2 h3
  | none =>
    obtain ⟨rfl, rfl⟩ := hA rfl
    obtain ⟨i0, hi, _⟩ := info_parts3 hinfo
    refine wpList_append_own_none hgd s x T ho B e i0 sz hT hi v n xs hs hown hx ?_
    have hy : ys = [] := List.length_eq_zero_iff.1 (by rw [hl]; omega)
    subst hy
    exact h v w (by simpa using hown) ⟨rfl, rfl, rfl, Nat.le_refl _, fun _ _ _ => rfl⟩
theorem rbelow_drewN {B : Nat} {w w' : World} (h : Below B w w') (n : Nat) : Below B w (w'.drewN n) := ⟨h.os, h.tape, h.output, h.size, h.block⟩
theorem row_cases {w : World} {B sz n c : Nat} {e : TypeId} {A : Option Addr} {xs : List Value} (h : w.ownsRow B e sz (.slice A n c) n xs) : (A = none ∧ n = 0 ∧ c = 0) ∨ ∃ g, A = some ⟨g, 0, none⟩ ∧ n ≤ c := by
  rcases h.2 with ⟨h1, h2⟩ | ⟨g, cap, cur, hv, _, _, hn, _⟩
  · simp only [Value.slice.injEq] at h1
    exact Or.inl h1
  · simp only [Value.slice.injEq, true_and] at hv
    obtain ⟨rfl, rfl⟩ := hv
    exact Or.inr ⟨g, rfl, hn⟩
theorem row_heap {w w' : World} {B sz n : Nat} {e : TypeId} {v : Value} {xs : List Value} (h : w.ownsRow B e sz v n xs) (he : w'.heap = w.heap) : w'.ownsRow B e sz v n xs := by
  unfold World.ownsRow at h ⊢
  rw [he]
  exact h
theorem while_at {α : Type} (q : α → Bool) (l : List α) (j : Nat) (hj : j ≤ l.length) (h : ∀ i x, i < j → l[i]? = some x → q x = true) (he : ∀ x, l[j]? = some x → q x = false) : l.takeWhile q = l.take j ∧ l.dropWhile q = l.drop j := by
  induction l generalizing j with
  | nil => simp
  | cons a r ih =>
    cases j with
    | zero =>
      have := he a (by simp)
      rw [List.takeWhile_cons_of_neg (by simpa using this), List.dropWhile_cons_of_neg (by simpa using this)]
      simp
    | succ j =>
      have ha := h 0 a (by omega) (by simp)
      rw [List.takeWhile_cons_of_pos ha, List.dropWhile_cons_of_pos ha]
      obtain ⟨e1, e2⟩ := ih j (by simpa using hj) (fun i x hi hx => h (i + 1) x (by omega) (by simpa using hx)) (fun x hx => he x (by simpa using hx))
      simp [e1, e2]
theorem hashr_same (s : ByteArray) (m : Int) (w : World) (hs : s.size ≤ maxLen) (h0 : 0 ≤ m) (h1 : m ≤ 18446744073709551615) :
    Calls Try.prog 15 #[.string s, .int .u64 m] w fun e w' => e = .returned (.int .u64 (hashM s.data.toList m)) ∧ w' = w :=
  (hash_ref s m w hs h0 h1).mono fun _ _ ⟨he, hw⟩ => ⟨he, hw.symm⟩
theorem lessr_same (h k : Int) (a b : ByteArray) (w : World) (h0 : 0 ≤ h) (h1 : h ≤ 18446744073709551615) (k0 : 0 ≤ k) (k1 : k ≤ 18446744073709551615) :
    Calls Try.prog 14 #[.int .u64 h, .string a, .int .u64 k, .string b] w fun e w' => e = .returned (.bool (lessB h a.toList k b.toList)) ∧ w' = w :=
  (less_ref h k a b w h0 h1 k0 k1).mono fun _ _ ⟨he, hw⟩ => ⟨he, hw.symm⟩
theorem one_cells (w : World) (x : ByteArray × Int) : ∀ j u, (prC x)[j]? = some u → (w.alloc (.cells #[.string x.1, .int .u64 x.2] 45)).cell? ((⟨w.heap.size, 0, none⟩ : Addr).add j) = some u := by
  have := prC_cells [x] (w.alloc (.cells #[.string x.1, .int .u64 x.2] 45)) w.heap.size 0 (fun i y hy => by
    have hi : i = 0 := by
      have := (List.getElem?_eq_some_iff.1 hy).1
      simpa using this
    subst hi
    obtain rfl : x = y := by simpa using hy
    exact ⟨blk_cell (heap_alloc w _).1 0, blk_cell (heap_alloc w _).1 1⟩)
  simpa using this
theorem one_one (x : ByteArray × Int) : ∀ u ∈ prC x, u.oneCell' = true := by
  have := prC_one [x]
  simpa using this
/-- the cells of a beginning of a row, in a later world -/
theorem src_take {w w' : World} {B g n c : Nat} {R : PL} (h : w.ownsRow B 45 2 (.slice (some ⟨g, 0, none⟩) n c) n (R.flatMap prC)) (j : Nat) (hk : w'.heap[g]? = w.heap[g]?) :
    ∀ ad, (some (⟨g, 0, none⟩ : Addr)) = some ad → ∀ i u, ((R.take j).flatMap prC)[i]? = some u → w'.cell? (ad.add i) = some u := by
  intro ad had i u hu
  obtain rfl := Option.some.inj had
  have hk' : w'.heap[((⟨g, 0, none⟩ : Addr).add i).block]? = w.heap[((⟨g, 0, none⟩ : Addr).add i).block]? := by rw [raddr]; exact hk
  refine (World.cell?_of_block hk').trans (h.cells (g := g) rfl i u ?_)
  have e : R.flatMap prC = (R.take j).flatMap prC ++ (R.drop j).flatMap prC := by rw [← List.flatMap_append, List.take_append_drop]
  rw [e, List.getElem?_append_left (List.getElem?_eq_some_iff.1 hu).1]
  exact hu
theorem src_drop {w w' : World} {B g n c : Nat} {R : PL} (h : w.ownsRow B 45 2 (.slice (some ⟨g, 0, none⟩) n c) n (R.flatMap prC)) (j : Nat) (hj : j ≤ R.length) (hk : w'.heap[g]? = w.heap[g]?) :
    ∀ ad, (some (⟨g, j * 2, none⟩ : Addr)) = some ad → ∀ i u, ((R.drop j).flatMap prC)[i]? = some u → w'.cell? (ad.add i) = some u := by
  intro ad had i u hu
  obtain rfl := Option.some.inj had
  have ea : ((⟨g, j * 2, none⟩ : Addr).add i) = ⟨g, j * 2 + i, none⟩ := by
    unfold Addr.add
    split
    · subst i; rfl
    · rfl
  rw [ea, World.cell?_of_block (a := ⟨g, j * 2 + i, none⟩) hk]
  have := h.cells (g := g) rfl (j * 2 + i) u (by
    have e : R.flatMap prC = (R.take j).flatMap prC ++ (R.drop j).flatMap prC := by rw [← List.flatMap_append, List.take_append_drop]
    have el : ((R.take j).flatMap prC).length = j * 2 := by rw [prC_len, List.length_take, Nat.min_eq_left hj]
    rw [e, List.getElem?_append_right (by rw [el]; omega), el, Nat.add_sub_cancel_left]
    exact hu)
  rw [raddr] at this
  exact this
theorem rgrown_below {w w' : World} {row : Option Nat} {B : Nat} (hg : w.grownBy w' row) (hB : B ≤ w.heap.size) (hr : ∀ k, row = some k → B ≤ k) : Below B w w' :=
  ⟨hg.os, hg.tape, hg.output, hg.size, fun k hk => hg.block k (by omega) (fun e => by have := hr k e.symm; omega)⟩
theorem put_end {w w4 : World} {v4 : Value} {n j : Nat} {xs : List Value} {R : PL} {m v : Int} {k : ByteArray} {l : PL} (h : w4.ownsRow w.heap.size 45 2 v4 n xs) (hb : Below w.heap.size w w4)
    (pu : putR m l k v = R.takeWhile (fun p => ltP m p (k, 0)) ++ (k, v) :: R.dropWhile (fun p => ltP m p (k, 0))) (h1 : R.takeWhile (fun p => ltP m p (k, 0)) = R.take j) (h2 : R.dropWhile (fun p => ltP m p (k, 0)) = R.drop j)
    (hn : n = (R.take j).length + 1 + (R.drop j).length) (hx : xs = (R.take j).flatMap prC ++ prC (k, v) ++ (R.drop j).flatMap prC) : WoPost w (putR m l k v) (.returned v4) w4 := by
  obtain ⟨A, c, rfl⟩ := row_form h
  have e : n = (putR m l k v).length := by rw [pu, h1, h2, hn]; simp; omega
  have ex : xs = (putR m l k v).flatMap prC := by rw [pu, h1, h2, hx]; simp
  subst hx
  rw [ex, e] at h
  exact ⟨A, c, by rw [e], h, hb⟩
def PuMid (w w1 : World) (R : PL) (m : Int) (k : ByteArray) (v11 : Value) (wx : World) : Prop :=
  ∃ j : Nat, v11 = .int .i64 j ∧ j ≤ R.length ∧ (R.takeWhile (fun p => ltP m p (k, 0)) = R.take j ∧ R.dropWhile (fun p => ltP m p (k, 0)) = R.drop j) ∧ Below w.heap.size w wx ∧ wx.heap = w1.heap
def PuRel (w w1 : World) (R : PL) (m : Int) (k : ByteArray) (v11 : Value) (wx : World) : Prop :=
  ∃ j : Nat, v11 = .int .i64 j ∧ j ≤ R.length ∧ (∀ i x, i < j → R[i]? = some x → ltP m x (k, 0) = true) ∧ Below w.heap.size w wx ∧ wx.heap = w1.heap
set_option maxRecDepth 100000 in
set_option maxHeartbeats 2000000 in
theorem put_any (T : Nat → Prop) (w : World) (A : Option Addr) (c : Nat) (l : PL) (h : PrAt T w A l) (hl : l.length ≤ 1048576) (m : Int) (m0 : 0 ≤ m) (m1 : m ≤ 18446744073709551615) (hks : ∀ x ∈ l, x.1.size ≤ 64) (k : ByteArray) (hk : k.size ≤ 64) (v : Int) :
    Calls Try.prog 58 #[.int .u64 m, .slice A l.length c, .string k, .int .u64 v] w (WoPost w (putR m l k v)) := by
  have WO := Lib.hid (without_any T w A c l h hl k)
  have hR : (withoutR l k).length ≤ 1048576 := Nat.le_trans (List.length_filter_le _ _) hl
  have hRk : ∀ x ∈ withoutR l k, x.1.size ≤ 64 := fun x hx => hks x (without_mem hx).1
  have PU := Lib.hid (show putR m l k v = (withoutR l k).takeWhile (fun p => ltP m p (k, 0)) ++ (k, v) :: (withoutR l k).dropWhile (fun p => ltP m p (k, 0)) from rfl)
  have LT := Lib.hid (show ∀ x : ByteArray × Int, ltP m x (k, 0) = lessB (hashM x.1.data.toList m) x.1.toList (hashM k.data.toList m) k.toList from fun _ => rfl)
  generalize withoutR l k = R at *
  have hb := hashM_bd k.data.toList m
  generalize hH : hashM k.data.toList m = H at *
  have HK : Hid (Calls Try.prog 15 #[.string k, .int .u64 m] w fun e w' => e = .returned (.int .u64 H) ∧ w' = w) := hH ▸ hashr_same k m w (by unfold maxLen; omega) m0 m1
  have HKW : Hid (∀ W, Calls Try.prog 15 #[.string k, .int .u64 m] W fun e w' => e = .returned (.int .u64 H) ∧ w' = W) := fun W => hH ▸ hashr_same k m W (by unfold maxLen; omega) m0 m1
  have HB := Lib.hid hb
  have M0 := Lib.hid m0
  have M1 := Lib.hid m1
  have RK := Lib.hid hRk
  clear h hks hRk hb hH m0 m1 hk HK hl
  go_enter Try.func58, Try.ntmps58
  go_wp2_with fail
  refine WO.out.mono ?_
  rintro e w1 ⟨A2, c2, rfl, hown, hbw⟩
  have HO := Lib.hid hown
  have B1 := Lib.hid hbw
  have P1 := Lib.hid (prAt_of_row hown rfl)
  clear hown hbw WO
  go_wp2_with fail
  refine (HKW.out w1).mono ?_
  rintro e w1' ⟨rfl, rfl⟩
  clear HKW
  go_upto_block 0 with fail
  go_cut [11] (fun v11 wx => PuMid w w1' R m k v11 wx)
  case first =>
    go_wp2_with fail
    go_loopw [11] (fun v11 wr => PuRel w w1' R m k v11 wr) (fun v11 _ => R.length - (intOf v11).toNat)
    case atStart => exact ⟨0, rfl, by omega, fun i x hi => by omega, B1.out, rfl⟩
    case round =>
      obtain ⟨j, rfl, hj, hall, hbr, hhe⟩ := hrel
      have AL := Lib.hid hall
      have BR := Lib.hid hbr
      have HE := Lib.hid hhe
      clear hall hbr hhe
      by_cases hlt : j < R.length
      · obtain ⟨x, hx⟩ : ∃ x, R[j]? = some x := ⟨_, List.getElem?_eq_getElem hlt⟩
        obtain ⟨b, hA, hT, hbz, hc⟩ := P1.out (by omega)
        subst hA
        obtain ⟨c0, c1⟩ := hc j x hx
        have eb : wr.heap[b]? = w1'.heap[b]? := by rw [HE.out]
        have d0 := (World.cell?_of_block (a := ⟨b, j * 2, none⟩) eb).trans c0
        have hj0 : (0 : Int) ≤ j := by omega
        have hj1 : (j : Int) < R.length := by omega
        have e1 : decide ((j : Int) < R.length) = true := decide_eq_true hj1
        have e2 : decide (j < R.length) = true := decide_eq_true hlt
        have xk := Lib.hid (RK.out x (List.mem_of_getElem? hx))
        have LX := Lib.hid (LT.out x)
        have HX := Lib.hid hx
        clear hx hc c0 c1 eb hT
        generalize hq : ltP m x (k, 0) = q at *
        have HQ := Lib.hid hq
        have LS : Hid (∀ W, Calls Try.prog 14 #[.int .u64 (hashM x.1.data.toList m), .string x.1, .int .u64 H, .string k] W fun e w' => e = .returned (.bool q) ∧ w' = W) := fun W => LX.out ▸ lessr_same _ _ _ _ W (hashM_bd _ _).1 (hashM_bd _ _).2 HB.out.1 HB.out.2
        clear hq LX
        cases q with
        | true =>
          go_wp2_with fail
          go_quiet ((first | (go_at_call 15; exact Calls.quiet_of_same (hashr_same _ _ _ (Nat.le_trans xk.out (by decide)) M0.out M1.out)) | (go_at_call 14; exact Calls.quiet_of_same (LS.out _))))
          go_wp2_with fail
          go_roundw
          case rel =>
            refine ⟨j + 1, by go_num, by omega, fun i y hi hy => ?_, rbelow_drewN BR.out _, HE.out⟩
            by_cases hij : i = j
            · subst hij
              rw [HX.out] at hy
              obtain rfl := Option.some.inj hy
              exact HQ.out
            · exact AL.out i y (by omega) hy
          case measure => simp [intOf]; omega
        | false =>
          go_wp2_with fail
          go_quiet ((first | (go_at_call 15; exact Calls.quiet_of_same (hashr_same _ _ _ (Nat.le_trans xk.out (by decide)) M0.out M1.out)) | (go_at_call 14; exact Calls.quiet_of_same (LS.out _))))
          go_wp2_with fail
          go_meet
          refine ⟨j, rfl, hj, while_at _ R j hj AL.out fun y hy => ?_, rbelow_drewN BR.out _, HE.out⟩
          rw [HX.out] at hy
          obtain rfl := Option.some.inj hy
          exact HQ.out
      · have e1 : decide ((j : Int) < R.length) = false := decide_eq_false (by omega)
        have e2 : decide (j < R.length) = false := decide_eq_false hlt
        go_wp2_with fail
        go_quiet (fail)
        go_wp2_with fail
        go_meet
        refine ⟨j, rfl, hj, while_at _ R j hj AL.out fun y hy => ?_, rbelow_drewN BR.out _, HE.out⟩
        have := (List.getElem?_eq_some_iff.1 hy).1
        omega
  case rest =>
    obtain ⟨j, rfl, hj, ⟨hw1, hw2⟩, hbw, hhe⟩ := hcut
    have HO' := Lib.hid (row_heap HO.out hhe)
    have BW := Lib.hid hbw
    have W1 := Lib.hid hw1
    have W2 := Lib.hid hw2
    have hsz := hbw.size
    have hj0 : (0 : Int) ≤ j := by omega
    have hj1 : (j : Int) ≤ R.length := by omega
    clear hbw hw1 hw2 hhe HO B1 P1 LT
    rcases row_cases HO'.out with ⟨rfl, hn0, rfl⟩ | ⟨g, rfl, hcap⟩
    · obtain rfl : R = [] := List.length_eq_zero_iff.1 hn0
      obtain rfl : j = 0 := by simpa using hj
      go_wp2_with (at_builtin; refine stopAt ?_)
      unfold StopAt
      refine wpList_appv 41 45 Try.underlying41 _ 2 24 pr_info rfl (by decide) rfl _ _ rfl wc.heap.size _ _ _ _ rfl (World.ownsRow_lit wc #[] 0 (Nat.le_refl _) (by unfold maxLen; omega) rfl) _ _ _ [] rfl (fun _ => ⟨rfl, rfl⟩) rfl (fun ad h => by cases h) (fun u hu => by cases hu) (by simp) (by unfold maxLen; omega) (by omega) ?_
      intro v1 w2 ho2 hg2
      have O2 := Lib.hid ho2
      have B2 := Lib.hid (BW.out.trans (grown_below hg2 hsz (fun k hk => by have e : wc.heap.size = k := Option.some.inj hk; omega)))
      have hsz2 := B2.out.size
      have hs2 := hg2.size
      clear ho2
      go_wp2_with (at_builtin; refine stopAt ?_)
      unfold StopAt
      refine wpList_app 41 45 Try.underlying41 _ 2 24 pr_info rfl (by decide) rfl _ _ rfl wc.heap.size _ _ _ _ rfl (O2.out.alloc _) ⟨w2.heap.size, 0, none⟩ 1 1 (prC (k, v)) rfl rfl (one_cells w2 (k, v)) (one_one (k, v)) (by simp at hs2 ⊢ <;> omega) (by unfold maxLen; omega) (by omega) ?_
      intro a3 c3 w3 ho3 hg3
      simp only [Nat.zero_add, List.nil_append] at ho3
      have O3 := Lib.hid ho3
      have B3 := Lib.hid (B2.out.trans (grown_below hg3 hsz2 (fun k hk => Nat.le_trans hsz (row_kind O2.out hk).1)))
      have hsz3 := B3.out.size
      have hwc3 : wc.heap.size ≤ w3.heap.size := by
        have e1 := hg3.size
        simp at hs2 e1
        omega
      clear hg2 hg3 ho3
      go_wp2_with (at_builtin; refine stopAt ?_)
      unfold StopAt
      refine wpList_appv 41 45 Try.underlying41 _ 2 24 pr_info rfl (by decide) rfl _ _ rfl wc.heap.size _ (.slice a3 1 c3) _ _ rfl O3.out _ _ _ [] rfl (fun _ => ⟨rfl, rfl⟩) rfl (fun ad h => by cases h) (fun u hu => by cases hu) hwc3 (by unfold maxLen; omega) (by omega) ?_
      intro v4 w4 ho4 hg4
      have O4 := Lib.hid ho4
      have B4 := Lib.hid (B3.out.trans (rgrown_below hg4 hsz3 (fun k hk => Nat.le_trans hsz (row_kind O3.out hk).1)))
      clear ho4 hg4
      go_wp2_with fail
      go_ret
      refine put_end (row_le O4.out hsz) B4.out PU.out W1.out W2.out (by simp) (by simp)
    · have hj2 : (j : Int) ≤ c2 := by omega
      have hgz : g < wc.heap.size := row_lt HO'.out rfl
      go_wp2_with (at_builtin; refine stopAt ?_)
      unfold StopAt
      refine wpList_appv 41 45 Try.underlying41 _ 2 24 pr_info rfl (by decide) rfl _ _ rfl wc.heap.size _ _ _ _ rfl (World.ownsRow_lit wc #[] 0 (Nat.le_refl _) (by unfold maxLen; omega) rfl) _ _ _ ((R.take j).flatMap prC) rfl (fun h => by cases h) (by rw [prC_len, List.length_take]; omega) (src_take HO'.out j (w' := wc.alloc (.cells #[] 45)) (Below.heap_alloc _ _ _ hgz)) (prC_one _) (by simp) (by unfold maxLen; omega) (by omega) ?_
      intro v1 w2 ho2 hg2
      have O2 := Lib.hid ho2
      have B2 := Lib.hid (BW.out.trans (grown_below hg2 hsz (fun k hk => by have e : wc.heap.size = k := Option.some.inj hk; omega)))
      have hsz2 := B2.out.size
      have hs2 := hg2.size
      clear ho2
      go_wp2_with (at_builtin; refine stopAt ?_)
      unfold StopAt
      refine wpList_app 41 45 Try.underlying41 _ 2 24 pr_info rfl (by decide) rfl _ _ rfl wc.heap.size _ _ _ _ rfl (O2.out.alloc _) ⟨w2.heap.size, 0, none⟩ 1 1 (prC (k, v)) rfl rfl (one_cells w2 (k, v)) (one_one (k, v)) (by simp at hs2 ⊢ <;> omega) (by unfold maxLen; omega) (by omega) ?_
      intro a3 c3 w3 ho3 hg3
      simp only [Nat.zero_add, List.nil_append] at ho3
      have O3 := Lib.hid ho3
      have B3 := Lib.hid (B2.out.trans (grown_below hg3 hsz2 (fun k hk => Nat.le_trans hsz (row_kind O2.out hk).1)))
      have hsz3 := B3.out.size
      have hwc3 : wc.heap.size ≤ w3.heap.size := by
        have e1 := hg3.size
        simp at hs2 e1
        omega
      have hgw2 : w2.heap[g]? = wc.heap[g]? := grown_block hg2 hgz (fun e => by have e' : wc.heap.size = g := Option.some.inj e; omega)
      have hgw : w3.heap[g]? = wc.heap[g]? := (grown_block hg3 (by simp at hs2; omega) (fun e => by have := (row_kind O2.out e).1; omega)).trans hgw2
      clear hg2 hg3 ho3
      go_wp2_with (at_builtin; refine stopAt ?_)
      · unfold StopAt
        refine wpList_appv 41 45 Try.underlying41 _ 2 24 pr_info rfl (by decide) rfl _ _ rfl wc.heap.size _ (.slice a3 (j + 1) c3) _ _ rfl O3.out _ _ _ [] rfl (fun h => by cases h) (by simp; omega) (fun ad _ i u hu => by cases hu) (fun u hu => by cases hu) hwc3 (by unfold maxLen; omega) (by omega) ?_
        intro v4 w4 ho4 hg4
        have O4 := Lib.hid ho4
        have B4 := Lib.hid (B3.out.trans (rgrown_below hg4 hsz3 (fun k hk => Nat.le_trans hsz (row_kind O3.out hk).1)))
        clear ho4 hg4
        go_wp2_with fail
        go_ret
        refine put_end (row_le O4.out hsz) B4.out PU.out W1.out W2.out (by simp; omega) (by rw [List.drop_of_length_le (show R.length ≤ j by omega)]; simp)
      · unfold StopAt
        refine wpList_appv 41 45 Try.underlying41 _ 2 24 pr_info rfl (by decide) rfl _ _ rfl wc.heap.size _ (.slice a3 (j + 1) c3) _ _ rfl O3.out (some ⟨g, j * 2, none⟩) _ _ ((R.drop j).flatMap prC) rfl (fun h => by cases h) (by rw [prC_len, List.length_drop]) (src_drop HO'.out j hj hgw) (prC_one _) hwc3 (by unfold maxLen; omega) (by omega) ?_
        intro v4 w4 ho4 hg4
        have O4 := Lib.hid ho4
        have B4 := Lib.hid (B3.out.trans (rgrown_below hg4 hsz3 (fun k hk => Nat.le_trans hsz (row_kind O3.out hk).1)))
        clear ho4 hg4
        go_wp2_with fail
        go_ret
        refine put_end (row_le O4.out hsz) B4.out PU.out W1.out W2.out (by simp; omega) (by simp)
end Go.Proofs.Ytagfghihnkkfiaa
namespace Go.Proofs.Ytagfghihnkkfiaa
set_option linter.unusedVariables false
set_option linter.unusedSimpArgs false
open Go Go.RowKit Go.MapKept
theorem findM_at {ms : List RMap} {n : Int} {k : Nat} {d : RMap} (h : findM ms n = some (k, d)) : ms[k]? = some d ∧ d.num = n := by
  induction ms generalizing k with
  | nil => simp [findM] at h
  | cons a r ih =>
    by_cases hn : a.num = n
    · simp only [findM, if_pos hn, Option.some.injEq, Prod.mk.injEq] at h
      obtain ⟨rfl, rfl⟩ := h
      exact ⟨by simp, hn⟩
    · simp only [findM, if_neg hn, Option.map_eq_some_iff, Prod.mk.injEq, Prod.exists] at h
      obtain ⟨j, x, hx, rfl, rfl⟩ := h
      have := ih hx
      exact ⟨by simpa using this.1, this.2⟩
theorem findW_at {ms : List (Int × IterD)} {n : Int} {k : Nat} {d : IterD} (h : findW ms n = some (k, d)) : ∃ m, ms[k]? = some (m, d) ∧ m = n := by
  induction ms generalizing k with
  | nil => simp [findW] at h
  | cons a r ih =>
    by_cases hn : a.1 = n
    · simp only [findW, if_pos hn, Option.some.injEq, Prod.mk.injEq] at h
      obtain ⟨rfl, rfl⟩ := h
      exact ⟨a.1, by simp, hn⟩
    · simp only [findW, if_neg hn, Option.map_eq_some_iff, Prod.mk.injEq, Prod.exists] at h
      obtain ⟨j, x, hx, rfl, rfl⟩ := h
      obtain ⟨m, h1, h2⟩ := ih hx
      exact ⟨m, by simpa using h1, h2⟩
/-- what Contents answers: the pairs, where they lie -/
def CoPost (T : Nat → Prop) (w : World) (f : Option (Nat × RMap)) (e : Ending) (w' : World) : Prop :=
  (match f with
    | none => e = .returned (.tuple #[.slice none 0 0, .bool false, .bool false])
    | some p => ∃ u c, e = .returned (.tuple #[.slice u p.2.pairs.length c, .bool p.2.ro, .bool true]) ∧ PrAt T w' u p.2.pairs) ∧ Below w.heap.size w w'
set_option maxRecDepth 100000 in
set_option maxHeartbeats 1000000 in
theorem rcont_any (T : Nat → Prop) (w : World) (A D : Option Addr) (c d : Nat) (g : RFam) (h : RFamAt T w A D g) (n : Int) :
    Calls Try.prog 46 #[rfamV g A c D d, .int .i64 n] w (CoPost T w (findM g.maps n)) := by
  obtain ⟨W0, hW0⟩ : ∃ W0, W0 = w.alloc (.cells #[.int .u64 g.mask, .slice A g.maps.length c, .slice D g.walks.length d] 59) := ⟨_, rfl⟩
  have hb0 : Below w.heap.size w W0 := by rw [hW0]; exact (Below.refl _ _).alloc (Nat.le_refl _) _
  have hz0 : w.heap.size < W0.heap.size := by rw [hW0]; simp
  have hk0 : W0.heap[w.heap.size]? = some (.cells #[.int .u64 g.mask, .slice A g.maps.length c, .slice D g.walks.length d] 59 (0, 0)) := by rw [hW0]; exact (heap_alloc w _).1
  have H0 := h.below hb0
  have FI := Lib.hid (find_any T W0 A D c d g H0 n)
  have hl := h.fit.lm
  have HM := Lib.hid h.maps
  have HW := Lib.hid hW0
  have B0 := Lib.hid hb0
  have K0 := Lib.hid hk0
  clear h H0 hW0 hb0 hk0
  cases hf : findM g.maps n with
  | none =>
    rw [hf] at FI
    simp only [rfamV, idxO] at FI ⊢
    clear hf
    go_enter Try.func46, Try.ntmps46
    go_wp2_with fail
    rw [← HW.out]
    refine FI.out.mono ?_
    rintro e w2 ⟨rfl, hb2⟩
    go_wp2_with fail
    try simp only [Exit.inBlock, Exit.then]
    exact bodyPost_ret (v := .tuple #[.slice none 0 0, .bool false, .bool false]) (by simp [results, Try.results46, go_sem]) rfl ⟨rfl, B0.out.trans (hb2.mono B0.out.size)⟩
  | some p =>
    obtain ⟨k, x⟩ := p
    obtain ⟨hx, _⟩ := findM_at hf
    have hk := (List.getElem?_eq_some_iff.1 hx).1
    obtain ⟨b, hA, hT, hbz, hc⟩ := HM.out (by omega)
    obtain ⟨u, cu, c0, c1, c2, c3⟩ := hc k x hx
    have C1 := Lib.hid c1
    have C2 := Lib.hid c2
    have C3 := Lib.hid c3
    rw [hf] at FI
    simp only [rfamV, idxO] at FI ⊢
    have hk0 : (0 : Int) ≤ k := by omega
    have hk1 : (k : Int) < g.maps.length := by omega
    have hk2 : ¬ (k : Int) < 0 := by omega
    subst hA
    clear hf hx hc c0 c1 c2 c3 HM
    go_enter Try.func46, Try.ntmps46
    go_wp2_with fail
    rw [← HW.out]
    refine FI.out.mono ?_
    rintro e w2 ⟨rfl, hb2⟩
    have B2 := Lib.hid (B0.out.trans (hb2.mono B0.out.size))
    have k2 := (hb2.block _ hz0).trans K0.out
    have y1 : w2.cell? ⟨w.heap.size, 1, none⟩ = some (.slice (some ⟨b, 0, none⟩) g.maps.length c) := blk_cell k2 1
    have d1 := (World.cell?_of_block (a := ⟨b, k * 3 + 1, none⟩) (B2.out.block b hbz)).trans C1.out
    have d2 := (World.cell?_of_block (a := ⟨b, k * 3 + 2, none⟩) (B2.out.block b hbz)).trans C2.out
    clear hb2 k2
    go_wp2_with fail
    go_region
    all_goals
      go_wp2_with fail
      try simp only [Exit.inBlock, Exit.then]
      exact bodyPost_ret (v := .tuple #[.slice u x.pairs.length cu, .bool x.ro, .bool true]) (by simp [results, Try.results46, go_sem]) rfl ⟨⟨u, cu, rfl, C3.out.keep (Kept.of_below B2.out.drew)⟩, B2.out.drew⟩
theorem newfam_block (w : World) (o o' : Obj) : ((w.alloc o).alloc o').heap[w.heap.size + 1]? = some o' := by
  have h := (heap_alloc (w.alloc o) o').1
  rwa [show (w.alloc o).heap.size = w.heap.size + 1 by simp] at h
/-- a new family -/
def fam0 (m : Int) : RFam := ⟨m, [⟨0, false, []⟩], []⟩
set_option maxRecDepth 100000 in
theorem newfam_any (w : World) (m : Int) (m0 : 0 ≤ m) (m1 : m ≤ 18446744073709551615) :
    Calls Try.prog 20 #[.int .u64 m] w fun e w' => ∃ A, e = .returned (rfamV (fam0 m) A 1 none 0) ∧ RFamAt (NewB w w') w' A none (fam0 m) ∧ Below w.heap.size w w' := by
  go_enter Try.func20, Try.ntmps20
  go_wp2_with fail
  try simp only [Exit.inBlock, Exit.then]
  refine bodyPost_ret (v := rfamV (fam0 m) (some ⟨w.heap.size + 1, 0, none⟩) 1 none 0) (by simp [results, Try.results20, go_sem, rfamV, fam0]) rfl ⟨_, rfl, ⟨fun _ => ?_, fun h => by simp [fam0] at h, ?_⟩, ?_⟩
  · refine ⟨w.heap.size + 1, rfl, ⟨by omega, by simp⟩, by simp, fun i x hx => ?_⟩
    have hi : i = 0 := by
      have := (List.getElem?_eq_some_iff.1 hx).1
      simpa [fam0] using this
    subst hi
    obtain rfl : (⟨0, false, []⟩ : RMap) = x := by simpa [fam0] using hx
    have hk := newfam_block w (.cells #[.int .u64 m, .slice (some ⟨w.heap.size + 1, 0, none⟩) 1 1, .slice none 0 0] 59) (.cells #[.int .i64 0, .bool false, .slice none 0 0] 94)
    exact ⟨none, 0, blk_cell hk 0, blk_cell hk 1, blk_cell hk 2, fun h => by simp at h⟩
  · exact ⟨m0, m1, by simp [fam0], by simp [fam0], by simp [fam0], by simp [fam0], by simp [fam0]⟩
  · exact ((Below.refl _ _).alloc (Nat.le_refl _) _).alloc (by simp) _
end Go.Proofs.Ytagfghihnkkfiaa
namespace Go.Proofs.Ytagfghihnkkfiaa
set_option linter.unusedVariables false
set_option linter.unusedSimpArgs false
open Go Go.RowKit Go.MapKept
def EqLq (w : World) (l l' : PL) (i : Value) (wr : World) : Prop := ∃ j : Nat, j ≤ l.length ∧ i = .int .i64 j ∧ (∀ k, k < j → l[k]? = l'[k]?) ∧ Below w.heap.size w wr ∧ wr.heap = w.heap
theorem ne_of_at {l l' : PL} {j : Nat} {x y : ByteArray × Int} (hx : l[j]? = some x) (hy : l'[j]? = some y) (h : x ≠ y) : decide (l = l') = false := by
  rw [decide_eq_false_iff_not]
  rintro rfl
  rw [hx] at hy
  exact h (Option.some.inj hy)
set_option maxHeartbeats 1000000 in
theorem req_any (T T' : Nat → Prop) (w : World) (A A' : Option Addr) (c c' : Nat) (l l' : PL) (h : PrAt T w A l) (h' : PrAt T' w A' l') (hn : l.length ≤ 1099511627776) (hn' : l'.length ≤ 1099511627776) :
    Calls Try.prog 17 #[.slice A l.length c, .slice A' l'.length c'] w fun e w' => e = .returned (.bool (decide (l = l'))) ∧ Below w.heap.size w w' := by
  have H1 := Lib.hid h
  have H2 := Lib.hid h'
  clear h h'
  by_cases hl : l.length = l'.length
  · have HL := Lib.hid hl
    have hlb : ((l.length : Int) == (l'.length : Int)) = true := by simp [hl]
    rw [← hl]
    clear hl hlb hn'
    go_enter Try.func17, Try.ntmps17
    go_wp2_with fail
    go_loopw [5] (fun i wr => EqLq w l l' i wr) (fun i _ => l.length - (intOf i).toNat)
    case atStart => exact ⟨0, by omega, rfl, fun k hk => by omega, Below.refl _ _, rfl⟩
    case round =>
      obtain ⟨j, hj, rfl, hall, hb, hh⟩ := hrel
      have AL := Lib.hid hall
      have HB := Lib.hid hb
      have HH := Lib.hid hh
      clear hall hb hh
      by_cases hlt : j < l.length
      · obtain ⟨x, hx⟩ : ∃ x, l[j]? = some x := ⟨_, List.getElem?_eq_getElem hlt⟩
        obtain ⟨y, hy⟩ : ∃ y, l'[j]? = some y := ⟨_, List.getElem?_eq_getElem (by rw [← HL.out]; exact hlt)⟩
        obtain ⟨b, hA, hT, hbz, hc⟩ := H1.out (by omega)
        obtain ⟨b', hA', hT', hbz', hc'⟩ := H2.out (by rw [← HL.out]; omega)
        subst hA hA'
        have p1 := (World.cell?_of_block (a := ⟨b, j * 2, none⟩) (w := w) (w' := wr) (by rw [HH.out])).trans (hc j x hx).1
        have p2 := (World.cell?_of_block (a := ⟨b, j * 2 + 1, none⟩) (w := w) (w' := wr) (by rw [HH.out])).trans (hc j x hx).2
        have q1 := (World.cell?_of_block (a := ⟨b', j * 2, none⟩) (w := w) (w' := wr) (by rw [HH.out])).trans (hc' j y hy).1
        have q2 := (World.cell?_of_block (a := ⟨b', j * 2 + 1, none⟩) (w := w) (w' := wr) (by rw [HH.out])).trans (hc' j y hy).2
        have hj0 : (0 : Int) ≤ j := by omega
        have hj1 : (j : Int) < l.length := by omega
        have HX := Lib.hid hx
        have HY := Lib.hid hy
        clear hx hy hc hc' hT hT' hbz hbz'
        by_cases hxy : x = y
        · subst hxy
          go_wp2_with fail
          go_quiet (fail)
          go_wp2_with fail
          go_roundw
          case rel =>
            refine ⟨j + 1, by omega, by go_num, fun k hk => ?_, rbelow_drewN HB.out _, HH.out⟩
            by_cases hkj : k = j
            · subst hkj; rw [HX.out, HY.out]
            · exact AL.out k (by omega)
          case measure => simp [intOf]; omega
        · have R := Lib.hid (ne_of_at HX.out HY.out hxy)
          by_cases hk : x.1 = y.1
          · have hv : x.2 ≠ y.2 := fun e => hxy (Prod.ext hk e)
            have e1 : (x.1.toList == y.1.toList) = true := by simp [hk]
            have e2 : (x.2 == y.2) = false := by simpa using hv
            clear hxy hk hv
            go_wp2_with fail
            go_quiet (fail)
            go_wp2_with fail
            go_ret
            exact ⟨ret_bool R.out.symm, rbelow_drewN HB.out _⟩
          · have e1 : (x.1.toList == y.1.toList) = false := beq_eq_false_iff_ne.2 fun e => hk (bytes_ext _ _ e)
            clear hxy hk
            go_wp2_with fail
            go_quiet (fail)
            go_wp2_with fail
            go_ret
            exact ⟨ret_bool R.out.symm, rbelow_drewN HB.out _⟩
      · have R := Lib.hid (show decide (l = l') = true by
          rw [decide_eq_true_iff]
          refine List.ext_getElem? fun k => ?_
          by_cases hk : k < j
          · exact AL.out k hk
          · rw [List.getElem?_eq_none (by omega), List.getElem?_eq_none (by rw [← HL.out]; omega)])
        go_wp2_with fail
        go_ret
        exact ⟨ret_bool R.out.symm, HB.out⟩
  · have R := Lib.hid (show decide (l = l') = false by rw [decide_eq_false_iff_not]; exact fun e => hl (by rw [e]))
    have hlb : ((l.length : Int) == (l'.length : Int)) = false := by simp; omega
    clear hl
    go_enter Try.func17, Try.ntmps17
    go_wp2_with fail
    go_ret
    exact ⟨ret_bool R.out.symm, Below.refl _ _⟩
end Go.Proofs.Ytagfghihnkkfiaa
namespace Go.Proofs.Ytagfghihnkkfiaa
set_option linter.unusedVariables false
set_option linter.unusedSimpArgs false
open Go Go.RowKit Go.MapKept
/-- the cells of a list of maps -/
structure RowOf (T : Nat → Prop) (w : World) (cs : List Value) (ms : List RMap) : Prop where
  len : cs.length = ms.length * 3
  one : ∀ u ∈ cs, u.oneCell' = true
  each : ∀ i d, ms[i]? = some d → ∃ u c, cs[i * 3]? = some (.int .i64 d.num) ∧ cs[i * 3 + 1]? = some (.bool d.ro) ∧ cs[i * 3 + 2]? = some (.slice u d.pairs.length c) ∧ PrAt T w u d.pairs
theorem RowOf.keep {T : Nat → Prop} {w w' : World} {cs : List Value} {ms : List RMap} (h : RowOf T w cs ms) (k : Kept T w w') : RowOf T w' cs ms :=
  ⟨h.len, h.one, fun i d hd => by
    obtain ⟨u, c, h0, h1, h2, h3⟩ := h.each i d hd
    exact ⟨u, c, h0, h1, h2, h3.keep k⟩⟩
theorem RowOf.more {T T' : Nat → Prop} {w : World} {cs : List Value} {ms : List RMap} (h : RowOf T w cs ms) (k : ∀ i, T i → T' i) : RowOf T' w cs ms :=
  ⟨h.len, h.one, fun i d hd => by
    obtain ⟨u, c, h0, h1, h2, h3⟩ := h.each i d hd
    exact ⟨u, c, h0, h1, h2, h3.more k⟩⟩
theorem maps_row {T : Nat → Prop} {w : World} {A : Option Addr} {ms : List RMap} (h : MapsAt T w A ms) (h0 : 0 < ms.length) :
    ∃ b cs, A = some ⟨b, 0, none⟩ ∧ T b ∧ b < w.heap.size ∧ RowOf T w cs ms ∧ ∀ j u, cs[j]? = some u → w.cell? ((⟨b, 0, none⟩ : Addr).add j) = some u := by
  obtain ⟨b, hA, hT, hz, hc⟩ := h h0
  have cell : ∀ j, j < ms.length * 3 → ∃ u, w.cell? ⟨b, j, none⟩ = some u ∧ u.oneCell' = true := fun j hj => by
    obtain ⟨d, hd⟩ : ∃ d, ms[j / 3]? = some d := ⟨_, List.getElem?_eq_getElem (by omega)⟩
    obtain ⟨u, c, c0, c1, c2, _⟩ := hc (j / 3) d hd
    have : j % 3 = 0 ∨ j % 3 = 1 ∨ j % 3 = 2 := by omega
    rcases this with e | e | e
    · exact ⟨_, by rw [show j = j / 3 * 3 by omega]; exact c0, rfl⟩
    · exact ⟨_, by rw [show j = j / 3 * 3 + 1 by omega]; exact c1, rfl⟩
    · exact ⟨_, by rw [show j = j / 3 * 3 + 2 by omega]; exact c2, rfl⟩
  have hget : ∀ j u, j < ms.length * 3 → w.cell? ⟨b, j, none⟩ = some u → ((List.range (ms.length * 3)).map (fun j => (w.cell? ⟨b, j, none⟩).getD (.int .i64 0)))[j]? = some u := fun j u hj hu => by
    rw [List.getElem?_map, List.getElem?_range hj]
    simp [hu]
  refine ⟨b, (List.range (ms.length * 3)).map (fun j => (w.cell? ⟨b, j, none⟩).getD (.int .i64 0)), hA, hT, hz, ⟨by simp, fun u hu => ?_, fun i d hd => ?_⟩, fun j u hu => ?_⟩
  · obtain ⟨j, hj, rfl⟩ := List.mem_map.1 hu
    obtain ⟨v, hv, h1⟩ := cell j (by simpa using hj)
    rw [hv]
    exact h1
  · have hi : i < ms.length := (List.getElem?_eq_some_iff.1 hd).1
    obtain ⟨u, c, c0, c1, c2, c3⟩ := hc i d hd
    exact ⟨u, c, hget _ _ (by omega) c0, hget _ _ (by omega) c1, hget _ _ (by omega) c2, c3⟩
  · have hj : j < ms.length * 3 := by
      have := (List.getElem?_eq_some_iff.1 hu).1
      simpa using this
    obtain ⟨v, hv, _⟩ := cell j hj
    rw [hget j v hj hv] at hu
    obtain rfl := Option.some.inj hu
    rw [raddr]
    exact hv
theorem row_maps {T : Nat → Prop} {w : World} {B n c : Nat} {A : Option Addr} {cs : List Value} {ms : List RMap} (h : w.ownsRow B 94 3 (.slice A n c) n cs) (hr : RowOf T w cs ms) (hn : n = ms.length) (hT : ∀ b, B ≤ b → b < w.heap.size → T b) : MapsAt T w A ms := fun h0 => by
  obtain ⟨g, cap, hv⟩ := row_some h (by omega)
  simp only [Value.slice.injEq, true_and] at hv
  obtain ⟨rfl, rfl⟩ := hv
  refine ⟨g, rfl, hT g (row_kind h (g := g) rfl).1 (row_lt h rfl), row_lt h rfl, fun i d hd => ?_⟩
  obtain ⟨u, c, c0, c1, c2, c3⟩ := hr.each i d hd
  have d0 := h.cells (g := g) rfl _ _ c0
  have d1 := h.cells (g := g) rfl _ _ c1
  have d2 := h.cells (g := g) rfl _ _ c2
  rw [raddr] at d0 d1 d2
  exact ⟨u, c, d0, d1, d2, c3⟩
theorem RowOf.set {T : Nat → Prop} {w : World} {cs : List Value} {ms : List RMap} (h : RowOf T w cs ms) (k : Nat) {Al : Option Addr} {cl : Nat} {l : PL} (hl : PrAt T w Al l) :
    RowOf T w (cs.set (k * 3 + 2) (.slice Al l.length cl)) (ms.modify k (fun d => { d with pairs := l })) := by
  refine ⟨by simp [h.len], fun u hu => ?_, fun i d hd => ?_⟩
  · rcases List.mem_or_eq_of_mem_set hu with hu | rfl
    · exact h.one u hu
    · rfl
  · rw [List.getElem?_modify] at hd
    cases hm : ms[i]? with
    | none => rw [hm] at hd; simp at hd
    | some x =>
      rw [hm] at hd
      obtain ⟨u, c, c0, c1, c2, c3⟩ := h.each i x hm
      have hi : i < ms.length := (List.getElem?_eq_some_iff.1 hm).1
      have hl3 := h.len
      by_cases hk : k = i
      · subst hk
        simp at hd
        subst hd
        refine ⟨Al, cl, ?_, ?_, ?_, hl⟩
        · rw [List.getElem?_set_ne (by omega)]; exact c0
        · rw [List.getElem?_set_ne (by omega)]; exact c1
        · rw [List.getElem?_set_self (by omega)]
      · simp [hk] at hd
        subst hd
        refine ⟨u, c, ?_, ?_, ?_, c3⟩
        · rw [List.getElem?_set_ne (by omega)]; exact c0
        · rw [List.getElem?_set_ne (by omega)]; exact c1
        · rw [List.getElem?_set_ne (by omega)]; exact c2
theorem rowns_keep {w w' : World} {base : Nat} {e : TypeId} {size g n cap : Nat} {xs : List Value} (h : w.ownsRow base e size (.slice (some ⟨g, 0, none⟩) n cap) n xs) (hb : w'.heap[g]? = w.heap[g]?) : w'.ownsRow base e size (.slice (some ⟨g, 0, none⟩) n cap) n xs := by
  obtain ⟨o1, o2⟩ := h
  refine ⟨o1, ?_⟩
  rcases o2 with ⟨h1, _⟩ | ⟨g', cap', cur, h1, h2, h3, h4⟩
  · simp at h1
  · have hg : g = g' := by simp at h1; exact h1.1
    subst hg
    exact Or.inr ⟨g, cap', cur, h1, h2, hb.trans h3, h4⟩
theorem rblk_set {w : World} {g : Nat} {t : TypeId} {cs : Array Value} (h : w.heap[g]? = some (.cells cs t (0, 0))) (i : Nat) (u : Value) : (w.setCell ⟨g, i, none⟩ u).heap[g]? = some (.cells (cs.setIfInBounds i u) t (0, 0)) := by
  simp [World.setCell, Array.getElem?_modify, h]
theorem rowns_set {w : World} {base : Nat} {e : TypeId} {size g n cap : Nat} {xs : List Value} (h : w.ownsRow base e size (.slice (some ⟨g, 0, none⟩) n cap) n xs) (j : Nat) (hj : j < n * size) (u : Value) : (w.setCell ⟨g, j, none⟩ u).ownsRow base e size (.slice (some ⟨g, 0, none⟩) n cap) n (xs.set j u) := by
  obtain ⟨o1, o2⟩ := h
  refine ⟨by simp [o1], ?_⟩
  rcases o2 with ⟨h1, _⟩ | ⟨g', cap', cur, h1, h2, h3, h4, h5, h6, h7⟩
  · simp at h1
  · simp only [Value.slice.injEq, Option.some.injEq, Addr.mk.injEq, and_true, true_and] at h1
    obtain ⟨rfl, rfl⟩ := h1
    refine Or.inr ⟨g, cap, _, rfl, h2, rblk_set h3 j u, h4, h5, by simp [h6], ?_⟩
    rw [Array.toList_setIfInBounds, List.take_set, h7]
theorem rblk_frozen {w : World} {g : Nat} {t : TypeId} {cs : Array Value} (h : w.heap[g]? = some (.cells cs t (0, 0))) (i : Nat) : w.frozen? ⟨g, i, none⟩ = false := by
  simp [World.frozen?, h]
theorem mem_modify {α : Type} {l : List α} {k : Nat} {f : α → α} {x : α} (h : x ∈ l.modify k f) : x ∈ l ∨ ∃ y ∈ l, x = f y := by
  obtain ⟨i, hi, e⟩ := List.getElem_of_mem h
  rw [List.getElem_modify] at e
  have hi' : i < l.length := by simpa using hi
  by_cases hk : k = i
  · rw [if_pos hk] at e
    exact Or.inr ⟨_, List.getElem_mem hi', e.symm⟩
  · rw [if_neg hk] at e
    exact Or.inl (e ▸ List.getElem_mem hi')
theorem RFit.set {g : RFam} (h : RFit g) (k : Nat) {l : PL} (hn : l.length ≤ 1048576) (hk : ∀ x ∈ l, x.1.size ≤ 64) : RFit (setM g k l) := by
  refine ⟨h.m0, h.m1, by simp [setM]; exact h.lm, h.lw, fun d hd => ?_, fun d hd => ?_, h.pos⟩
  · rcases mem_modify hd with hd | ⟨y, _, rfl⟩
    · exact h.lp d hd
    · exact hn
  · rcases mem_modify hd with hd | ⟨y, _, rfl⟩
    · exact h.keys d hd
    · exact hk
theorem map_info : (Try.prog.info? 94).map (fun i => (i.zero, i.size, i.bytes)) = some (some (.agg #[.int .i64 0, .bool false, .slice none 0 0]), 3, 40) := by kernel_rfl
set_option maxRecDepth 100000 in
set_option maxHeartbeats 1000000 in
theorem rset_any (T : Nat → Prop) (w : World) (A D : Option Addr) (c d : Nat) (g : RFam) (h : RFamAt T w A D g) (k : Nat) (hk : k < g.maps.length) (Al : Option Addr) (cl : Nat) (l : PL) (hl : PrAt T w Al l) (hn : l.length ≤ 1048576) (hkeys : ∀ x ∈ l, x.1.size ≤ 64) :
    Calls Try.prog 43 #[rfamV g A c D d, .int .i64 k, .slice Al l.length cl] w fun e w' => ∃ A' c', e = .returned (rfamV (setM g k l) A' c' D d) ∧ RFamAt (fun b => T b ∨ NewB w w' b) w' A' D (setM g k l) ∧ Below w.heap.size w w' := by
  obtain ⟨b, cs, hA, hT, hz, hr, hc⟩ := maps_row h.maps (by omega)
  subst hA
  have hlm := h.fit.lm
  have R := Lib.hid hr
  have C := Lib.hid hc
  have H := Lib.hid h
  have HL := Lib.hid hl
  clear hr hc h hl
  obtain ⟨W2, hW2⟩ : ∃ W2, W2 = (w.alloc (.cells #[.int .u64 g.mask, .slice (some ⟨b, 0, none⟩) g.maps.length c, .slice D g.walks.length d] 59)).alloc (.cells #[.int .u64 0, .slice none 0 0, .slice none 0 0] 59) := ⟨_, rfl⟩
  have hs2 : W2.heap.size = w.heap.size + 1 + 1 := by rw [hW2]; simp
  have hb2 : Below w.heap.size w W2 := by rw [hW2]; exact ((Below.refl _ _).alloc (Nat.le_refl _) _).alloc (by simp) _
  have x0 : W2.heap[w.heap.size]? = some (.cells #[.int .u64 g.mask, .slice (some ⟨b, 0, none⟩) g.maps.length c, .slice D g.walks.length d] 59 (0, 0)) := by
    rw [hW2]
    exact (Below.heap_alloc _ _ _ (by simp)).trans (heap_alloc w _).1
  have x1 : W2.heap[w.heap.size + 1]? = some (.cells #[.int .u64 0, .slice none 0 0, .slice none 0 0] 59 (0, 0)) := by
    rw [hW2]
    exact newfam_block w _ _
  have HW := Lib.hid hW2
  have HS := Lib.hid hs2
  have HB := Lib.hid hb2
  have X0 := Lib.hid x0
  have X1 := Lib.hid x1
  clear hW2 hs2 hb2 x0 x1
  simp only [rfamV]
  go_enter Try.func43, Try.ntmps43
  go_wp2_with (at_builtin; refine stopAt ?_)
  unfold StopAt
  rw [← HW.out, ← HS.out]
  refine wpList_app 56 94 Try.underlying56 _ 3 40 map_info rfl (by decide) rfl _ _ rfl W2.heap.size _ _ _ _ rfl (World.ownsRow_lit W2 #[] 0 (Nat.le_refl _) (by unfold maxLen; omega) rfl) ⟨b, 0, none⟩ g.maps.length c cs rfl R.out.len ?_ R.out.one (by simp) (by unfold maxLen; omega) (by omega) ?_
  · intro j u hu
    have hbw : b < W2.heap.size := by rw [HS.out]; omega
    have e1 := (Below.heap_alloc W2 (.cells #[] 94) b hbw).trans (HB.out.block b hz)
    have e2 := C.out j u hu
    rw [raddr] at e2 ⊢
    exact (World.cell?_of_block (a := ⟨b, j, none⟩) e1).trans e2
  intro a3 c3 w3 ho3 hg3
  simp only [Nat.zero_add, List.nil_append] at ho3
  obtain ⟨g3, c3', hv⟩ := row_some ho3 (by omega)
  simp only [Value.slice.injEq, true_and] at hv
  obtain ⟨rfl, rfl⟩ := hv
  have O3 := Lib.hid ho3
  have hg0 : W2.heap.size ≤ g3 := (row_kind ho3 (g := g3) rfl).1
  have hgl : g3 < w3.heap.size := row_lt ho3 rfl
  have s2 := HS.out
  have nrow : ∀ q, q < W2.heap.size → w3.heap[q]? = W2.heap[q]? := fun q hq => grown_block hg3 hq (fun e => by have e' : W2.heap.size = q := Option.some.inj e; omega)
  have z0 := (nrow w.heap.size (by omega)).trans X0.out
  have z1 := (nrow (w.heap.size + 1) (by omega)).trans X1.out
  obtain ⟨_, cur, hcur⟩ := row_kind ho3 (g := g3) rfl
  obtain ⟨uo, co, _, _, k2, _⟩ := R.out.each k _ (List.getElem?_eq_getElem hk)
  have y3 := ho3.cells (g := g3) rfl (k * 3 + 2) _ k2
  rw [raddr] at y3
  have f3 := rblk_frozen hcur (k * 3 + 2)
  have y0 : w3.cell? ⟨w.heap.size, 0, none⟩ = some (.int .u64 g.mask) := blk_cell z0 0
  have y1 : w3.cell? ⟨w.heap.size, 1, none⟩ = some (.slice (some ⟨b, 0, none⟩) g.maps.length c) := blk_cell z0 1
  have y2 : w3.cell? ⟨w.heap.size, 2, none⟩ = some (.slice D g.walks.length d) := blk_cell z0 2
  have r0 : w3.cell? ⟨w.heap.size + 1, 0, none⟩ = some (.int .u64 0) := blk_cell z1 0
  have r1 : w3.cell? ⟨w.heap.size + 1, 1, none⟩ = some (.slice none 0 0) := blk_cell z1 1
  have r2 : w3.cell? ⟨w.heap.size + 1, 2, none⟩ = some (.slice none 0 0) := blk_cell z1 2
  have f0 := rblk_frozen z0 1
  have q0 := rblk_frozen z1 0
  have q1 := rblk_frozen z1 1
  have q2 := rblk_frozen z1 2
  have B3 := Lib.hid (HB.out.trans (grown_below hg3 (by omega) (fun q hq => by have e' : W2.heap.size = q := Option.some.inj hq; omega)))
  have n1 : ¬ g3 = w.heap.size := by omega
  have n2 : ¬ w.heap.size = g3 := by omega
  have n3 : ¬ g3 = w.heap.size + 1 := by omega
  have n4 : ¬ w.heap.size + 1 = g3 := by omega
  have hk0 : (0 : Int) ≤ k := by omega
  have hk1 : (k : Int) < g.maps.length := by omega
  have NR := Lib.hid nrow
  clear ho3 hg3 z0 z1 hcur k2 nrow
  go_wp2_with fail
  try simp only [Exit.inBlock, Exit.then]
  have hbk : ∀ (W : World) (x y z u : Value), ((((W.setCell ⟨w.heap.size, 1, none⟩ x).setCell ⟨w.heap.size + 1, 0, none⟩ y).setCell ⟨w.heap.size + 1, 1, none⟩ z).setCell ⟨w.heap.size + 1, 2, none⟩ u).heap[g3]? = W.heap[g3]? := fun W x y z u =>
    (Below.heap_setCell _ _ _ _ n3).trans ((Below.heap_setCell _ _ _ _ n3).trans ((Below.heap_setCell _ _ _ _ n3).trans (Below.heap_setCell _ _ _ _ n1)))
  have O5 := Lib.hid (fun x y z u => rowns_keep (rowns_set O3.out (k * 3 + 2) (by omega) (.slice Al l.length cl)) (hbk _ x y z u))
  have B5 := Lib.hid (fun x y z u => (((((B3.out.setCell (p := ⟨g3, k * 3 + 2, none⟩) (by show w.heap.size ≤ g3; omega) (.slice Al l.length cl)).setCell (p := ⟨w.heap.size, 1, none⟩) (Nat.le_refl _) x).setCell (p := ⟨w.heap.size + 1, 0, none⟩) (by show w.heap.size ≤ w.heap.size + 1; omega) y).setCell (p := ⟨w.heap.size + 1, 1, none⟩) (by show w.heap.size ≤ w.heap.size + 1; omega) z).setCell (p := ⟨w.heap.size + 1, 2, none⟩) (by show w.heap.size ≤ w.heap.size + 1; omega) u))
  have ZZ : ∀ (x y z u v : Value), (((((w3.setCell ⟨g3, k * 3 + 2, none⟩ v).setCell ⟨w.heap.size, 1, none⟩ x).setCell ⟨w.heap.size + 1, 0, none⟩ y).setCell ⟨w.heap.size + 1, 1, none⟩ z).setCell ⟨w.heap.size + 1, 2, none⟩ u).heap.size = w3.heap.size := fun x y z u v => by simp [World.setCell]
  refine bodyPost_ret (v := rfamV (setM g k l) (some ⟨g3, 0, none⟩) c3 D d) (by simp [results, Try.results43, go_sem, rfamV, setM, y0, y1, y2, r0, r1, r2, f0, q0, q1, q2, n1, n2, n3, n4]) rfl ?_
  refine ⟨_, _, rfl, ⟨?_, ?_, H.out.fit.set k hn hkeys⟩, B5.out _ _ _ _⟩
  · refine row_maps (B := W2.heap.size) (c := c3) (n := g.maps.length) (O5.out _ _ _ _) (((R.out.keep (Kept.of_below (B5.out _ _ _ _))).set k (HL.out.keep (Kept.of_below (B5.out _ _ _ _)))).more (fun i hi => Or.inl hi)) (by simp [setM]) (fun q h1 h2 => Or.inr ⟨by omega, h2⟩)
  · exact (H.out.walks.keep (Kept.of_below (B5.out _ _ _ _))).more (fun i hi => Or.inl hi)
end Go.Proofs.Ytagfghihnkkfiaa
