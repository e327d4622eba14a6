/- Rows of pairs: appends; the walk of the reference's without. The walk of the reference's Check. Linearizations as plain data: justified refusals, members, order, play. No program in sight. -/
import Derived.Test.YtbmoehndnbbhcaaGreatDoorMZW
import Derived.Test.YtbmoehndnbbhcaaGreatDoorMLtP
import Derived.Test.YtbmoehndnbbhcaaGreatDoorMZRes
namespace Go.Proofs.YtbmoehndnbbhcaaGreatDoor
set_option linter.unusedVariables false
set_option linter.unusedSimpArgs false
open Go Go.RowKit Go.MapKept
theorem info_parts3 {e : TypeId} {z : Value} {sz by8 : Nat} (h : (Tryz.prog.info? e).map (fun i => (i.zero, i.size, i.bytes)) = some (some z, sz, by8)) : ∃ i, Tryz.prog.info? e = some i ∧ i.zero = some z ∧ i.size = sz ∧ i.bytes = by8 := by
  obtain ⟨i, hi, e⟩ := Option.map_eq_some_iff.1 h
  simp only [Prod.mk.injEq] at e
  exact ⟨i, hi, e.1, e.2.1, e.2.2⟩
theorem row_form {w : World} {B size n : Nat} {e : TypeId} {v : Value} {xs : List Value} (h : w.ownsRow B e size v n xs) : ∃ a cap, v = .slice a n cap := by
  rcases h.2 with ⟨rfl, h0⟩ | ⟨g, cap, cur, rfl, _⟩
  · exact ⟨none, 0, by rw [h0]⟩
  · exact ⟨_, cap, rfl⟩
theorem row_kind {w : World} {B size n : Nat} {e : TypeId} {v : Value} {xs : List Value} (h : w.ownsRow B e size v n xs) {g : Nat} (hg : v.ownBlock = some g) : B ≤ g ∧ ∃ cur, w.heap[g]? = some (.cells cur e (0, 0)) := by
  rcases h.2 with ⟨h0, _⟩ | ⟨k, cap, cur, hv, hb, hk, _⟩
  · rw [h0] at hg; simp [Value.ownBlock] at hg
  · rw [hv] at hg
    simp only [Value.ownBlock, Option.some.injEq] at hg
    subst hg
    exact ⟨hb, cur, hk⟩
theorem row_lt {w : World} {B size n : Nat} {e : TypeId} {v : Value} {xs : List Value} (h : w.ownsRow B e size v n xs) {g : Nat} (hg : v.ownBlock = some g) : g < w.heap.size := by
  obtain ⟨_, cur, hc⟩ := row_kind h hg
  exact (Array.getElem?_eq_some_iff.1 hc).1
theorem row_some {w : World} {B size n : Nat} {e : TypeId} {v : Value} {xs : List Value} (h : w.ownsRow B e size v n xs) (hn : 0 < n) : ∃ g cap, v = .slice (some ⟨g, 0, none⟩) n cap := by
  rcases h.2 with ⟨rfl, h0⟩ | ⟨g, cap, cur, rfl, _⟩
  · omega
  · exact ⟨g, cap, rfl⟩
theorem grown_block {w w' : World} {o : Obj} {row : Option Nat} (hg : (w.alloc o).grownBy w' row) {k : Nat} (hk : k < w.heap.size) (hr : row ≠ some k) : w'.heap[k]? = w.heap[k]? := by
  rw [hg.block k (by simp; omega) (fun e => hr e.symm), Below.heap_alloc _ _ _ hk]
theorem grown_below {w w' : World} {o : Obj} {row : Option Nat} {B : Nat} (hg : (w.alloc o).grownBy w' row) (hB : B ≤ w.heap.size) (hr : ∀ k, row = some k → B ≤ k) : Below B w w' :=
  ((Below.refl _ _).alloc hB o).grown hg (by simp; omega) hr
theorem row_le {w : World} {b b' size n : Nat} {e : TypeId} {v : Value} {xs : List Value} (h : w.ownsRow b e size v n xs) (hb : b' ≤ b) : w.ownsRow b' e size v n xs :=
  ⟨h.1, h.2.elim Or.inl (fun ⟨g, cap, cur, hv, hg, r⟩ => Or.inr ⟨g, cap, cur, hv, Nat.le_trans hb hg, r⟩)⟩

theorem raddr (g n : Nat) : ((⟨g, 0, none⟩ : Addr).add n) = ⟨g, n, none⟩ := by
  unfold Addr.add
  split
  · subst n; rfl
  · simp
/-- the walk stops here -/
def StopAt (p : Prop) : Prop := p
theorem stopAt {p : Prop} (h : StopAt p) : p := h
/-- an append of any number of elements to an own row -/
theorem wpList_app {ops : Array Oper} {rest : List Oper} {o : Oper} {a : Act} {Q : Exit → Act → World → Prop} (T e : TypeId) (hT : Tryz.prog.underlying T = some (.slice e)) (z : Value) (sz by8 : Nat) (hinfo : (Tryz.prog.info? e).map (fun i => (i.zero, i.size, i.bytes)) = some (some z, sz, by8)) (hz : z.cells.size = sz) (h0 : 0 < sz)
    (hgd : o.guard = none) (s x : Operand) (ho : o.op = .call { callee := .builtin .append, args := #[s, x], argTypes := #[T, T] })
    (B : Nat) (w : World) (v : Value) (n : Nat) (xs : List Value) (hs : a.eval s = v) (hown : w.ownsRow B e sz v n xs) (ad : Addr) (m c : Nat) (ys : List Value) (hx : a.eval x = .slice (some ad) m c) (hl : ys.length = m * sz)
    (hc : ∀ j u, ys[j]? = some u → w.cell? (ad.add j) = some u) (h1 : ∀ u ∈ ys, u.oneCell' = true) (hB : B ≤ w.heap.size) (hm : n + m ≤ maxLen) (hlen : (n + m) * by8 ≤ 140737488355328)
    (h : ∀ a' cap' w', w'.ownsRow B e sz (.slice a' (n + m) cap') (n + m) (xs ++ ys) → w.grownBy w' v.ownBlock → wpList Tryz.prog ops Q rest (a.put o.dst (.slice a' (n + m) cap')) w') : wpList Tryz.prog ops Q (o :: rest) a w := by
  obtain ⟨i0, hi, hz0, hz1, hz2⟩ := info_parts3 hinfo
  refine wpList_append_own _ hgd s x T ho B e i0 z sz by8 hT hi hz0 hz1 hz2 hz h0 v n xs hs hown ad m c ys hx hl hc h1 hm hlen hB ?_
  intro v' w' ho' hg _
  obtain ⟨a', cap', rfl⟩ := row_form ho'
  exact h a' cap' w' ho' hg
def prC (x : ByteArray × Int) : List Value := [.string x.1, .int .u64 x.2]
theorem prC_len (l : PL) : (l.flatMap prC).length = l.length * 2 := by
  induction l with
  | nil => rfl
  | cons x r ih => simp [prC, ih]; omega
theorem prC_one (l : PL) : ∀ u ∈ l.flatMap prC, u.oneCell' = true := by
  intro u hu
  obtain ⟨x, _, hx⟩ := List.mem_flatMap.1 hu
  simp only [prC, List.mem_cons, List.not_mem_nil, or_false] at hx
  rcases hx with rfl | rfl <;> rfl
theorem prC_at (l : PL) (j : Nat) (x : ByteArray × Int) (hx : l[j]? = some x) : (l.flatMap prC)[j * 2]? = some (.string x.1) ∧ (l.flatMap prC)[j * 2 + 1]? = some (.int .u64 x.2) := by
  induction l generalizing j with
  | nil => simp at hx
  | cons y r ih =>
    cases j with
    | zero =>
      simp only [List.getElem?_cons_zero, Option.some.injEq] at hx
      subst hx
      simp [prC]
    | succ j =>
      have := ih j (by simpa using hx)
      rw [List.flatMap_cons]
      have e : (prC y).length = 2 := rfl
      rw [List.getElem?_append_right (by rw [e]; omega), List.getElem?_append_right (by rw [e]; omega), e, show (j + 1) * 2 - 2 = j * 2 by omega, show (j + 1) * 2 + 1 - 2 = j * 2 + 1 by omega]
      exact this
/-- the cells of pairs that are read -/
theorem prC_cells (l : PL) (w : World) (b off : Nat) (h : ∀ j x, l[j]? = some x → w.cell? ⟨b, off + j * 2, none⟩ = some (.string x.1) ∧ w.cell? ⟨b, off + j * 2 + 1, none⟩ = some (.int .u64 x.2)) :
    ∀ j u, (l.flatMap prC)[j]? = some u → w.cell? ((⟨b, off, none⟩ : Addr).add j) = some u := by
  intro j u hu
  have hj : j < l.length * 2 := by rw [← prC_len]; exact (List.getElem?_eq_some_iff.1 hu).1
  obtain ⟨x, hx⟩ : ∃ x, l[j / 2]? = some x := ⟨_, List.getElem?_eq_getElem (by omega)⟩
  have hp := prC_at l (j / 2) x hx
  have hc := h (j / 2) x hx
  have ea : ((⟨b, off, none⟩ : Addr).add j) = ⟨b, off + j, none⟩ := by simp [Addr.add]
  rw [ea]
  by_cases he : j % 2 = 0
  · have e : j = j / 2 * 2 := by omega
    have e2 : w.cell? ⟨b, off + j, none⟩ = w.cell? ⟨b, off + j / 2 * 2, none⟩ := by rw [← e]
    rw [e2, hc.1]
    rw [show (l.flatMap prC)[j]? = (l.flatMap prC)[j / 2 * 2]? by rw [← e], hp.1] at hu
    exact hu
  · have e : j = j / 2 * 2 + 1 := by omega
    have e2 : w.cell? ⟨b, off + j, none⟩ = w.cell? ⟨b, off + j / 2 * 2 + 1, none⟩ := by rw [show off + j / 2 * 2 + 1 = off + j by omega]
    rw [e2, hc.2]
    rw [show (l.flatMap prC)[j]? = (l.flatMap prC)[j / 2 * 2 + 1]? by rw [← e], hp.2] at hu
    exact hu
theorem pr_info : (Tryz.prog.info? 122).map (fun i => (i.zero, i.size, i.bytes)) = some (some (.agg #[.string ⟨#[]⟩, .int .u64 0]), 2, 24) := by kernel_rfl
/-- blocks made since w -/
def NewB (w w' : World) (b : Nat) : Prop := w.heap.size ≤ b ∧ b < w'.heap.size
theorem prAt_of_row {w0 w : World} {A : Option Addr} {n c : Nat} {l : PL} (h : w.ownsRow w0.heap.size 122 2 (.slice A n c) n (l.flatMap prC)) (hn : n = l.length) : PrAt (NewB w0 w) w A l := fun h0 => by
  obtain ⟨g, cap, hv⟩ := row_some h (by omega)
  simp only [Value.slice.injEq, true_and] at hv
  obtain ⟨rfl, rfl⟩ := hv
  refine ⟨g, rfl, ⟨(row_kind h (g := g) rfl).1, row_lt h rfl⟩, row_lt h rfl, fun j x hx => ?_⟩
  have hp := prC_at l j x hx
  have c1 := h.cells (g := g) rfl (j * 2) _ hp.1
  have c2 := h.cells (g := g) rfl (j * 2 + 1) _ hp.2
  rw [raddr] at c1 c2
  exact ⟨c1, c2⟩
def WoRel (w : World) (l : PL) (k : ByteArray) (v i : Value) (wr : World) : Prop :=
  ∃ j : Nat, j ≤ l.length ∧ i = .int .i64 j ∧ wr.ownsRow w.heap.size 122 2 v (withoutR (l.take j) k).length ((withoutR (l.take j) k).flatMap prC) ∧ Below w.heap.size w wr
def WoPost (w : World) (l : PL) (e : Ending) (w' : World) : Prop :=
  ∃ (A : Option Addr) (c : Nat), e = .returned (.slice A l.length c) ∧ w'.ownsRow w.heap.size 122 2 (.slice A l.length c) l.length (l.flatMap prC) ∧ Below w.heap.size w w'
theorem without_take {l : PL} {k : ByteArray} {j : Nat} {x : ByteArray × Int} (hx : l[j]? = some x) : withoutR (l.take (j + 1)) k = withoutR (l.take j) k ++ (if x.1 = k then [] else [x]) := by
  rw [List.take_add_one, hx]
  simp only [Option.toList_some, withoutR, List.filter_append]
  congr 1
  by_cases h : x.1 = k <;> simp [h]
set_option maxRecDepth 100000 in
set_option maxHeartbeats 2000000 in
theorem without_any (T : Nat → Prop) (w : World) (A : Option Addr) (c : Nat) (l : PL) (h : PrAt T w A l) (hl : l.length ≤ 1048576) (k : ByteArray) :
    Calls Tryz.prog 68 #[.slice A l.length c, .string k] w (WoPost w (withoutR l k)) := by
  have H := Lib.hid h
  clear h
  go_enter Tryz.func68, Tryz.ntmps68
  go_wp2_with fail
  go_loopw [5, 6] (fun v i wr => WoRel w l k v i wr) (fun _ i _ => l.length - (intOf i).toNat)
  case atStart => exact ⟨0, by omega, rfl, World.ownsRow_nil _ _ _ _, Below.refl _ _⟩
  case round =>
    obtain ⟨j, hj, rfl, hown, hbw⟩ := hrel
    have HO := Lib.hid hown
    have HB := Lib.hid hbw
    have hsz : w.heap.size ≤ wr.heap.size := hbw.size
    have hln : (withoutR (l.take j) k).length ≤ 1048576 := Nat.le_trans (List.length_filter_le _ _) (by rw [List.length_take]; omega)
    clear hown hbw
    by_cases hlt : j < l.length
    · obtain ⟨x, hx⟩ : ∃ x, l[j]? = some x := ⟨_, List.getElem?_eq_getElem hlt⟩
      obtain ⟨b, hA, hT, hb, hc⟩ := H.out (by omega)
      subst hA
      obtain ⟨c0, c1⟩ := hc j x hx
      have eb := HB.out.block b hb
      have d0 := (World.cell?_of_block (a := ⟨b, j * 2, none⟩) eb).trans c0
      have d1 := (World.cell?_of_block (a := ⟨b, j * 2 + 1, none⟩) eb).trans c1
      have hbr : b < wr.heap.size := by omega
      have hj0 : (0 : Int) ≤ j := by omega
      have hj1 : (j : Int) < l.length := by omega
      have WT := Lib.hid (without_take (k := k) hx)
      clear hx hc c0 c1 eb
      generalize hR : withoutR (l.take j) k = R at *
      by_cases hn : x.1 = k
      · have hnb : (x.1.toList == k.toList) = true := by simp [hn]
        rw [if_pos hn, List.append_nil] at WT
        clear hn
        go_wp2_with fail
        go_roundw
        case rel =>
          refine ⟨j + 1, by omega, by go_num, ?_, HB.out⟩
          rw [WT.out]
          exact HO.out
        case measure => simp [intOf]; omega
      · have hnb : (x.1.toList == k.toList) = false := beq_eq_false_iff_ne.2 fun e => hn (bytes_ext _ _ e)
        rw [if_neg hn] at WT
        clear hn
        go_wp2_with (at_builtin; refine stopAt ?_)
        unfold StopAt
        refine wpList_app 114 122 Tryz.underlying114 _ 2 24 pr_info rfl (by decide) rfl _ _ rfl w.heap.size _ _ _ _ rfl (HO.out.alloc _) ⟨wr.heap.size, 0, none⟩ 1 1 (prC x) rfl rfl ?_ ?_ (by simp; omega) (by unfold maxLen; omega) (by omega) ?_
        · have := prC_cells [x] (wr.alloc (.cells #[.string x.1, .int .u64 x.2] 122)) wr.heap.size 0 (fun i y hy => ?_)
          · simpa using this
          · have hi : i = 0 := by
              have := (List.getElem?_eq_some_iff.1 hy).1
              simpa using this
            subst hi
            obtain rfl : x = y := by simpa using hy
            exact ⟨blk_cell (heap_alloc wr _).1 0, blk_cell (heap_alloc wr _).1 1⟩
        · have := prC_one [x]
          simpa using this
        intro a3 c3 w3 ho3 hg3
        have O3 := Lib.hid ho3
        have G3 := Lib.hid hg3
        clear ho3 hg3
        go_wp2_with fail
        go_roundw
        case rel =>
          refine ⟨j + 1, by omega, by go_num, ?_, HB.out.trans (grown_below G3.out HB.out.size (fun k hk => (row_kind HO.out hk).1))⟩
          rw [WT.out, List.length_append, List.flatMap_append]
          have := O3.out
          simpa using this
        case measure => simp [intOf]; omega
    · have hje : j = l.length := by omega
      have TA : l.take j = l := List.take_of_length_le (by omega)
      rw [TA] at HO
      have TT := Lib.hid TA
      clear TA
      obtain ⟨A2, c2, hv⟩ := row_form HO.out
      go_wp2_with fail
      go_ret
      subst hv
      exact ⟨A2, c2, rfl, HO.out, HB.out⟩
end Go.Proofs.YtbmoehndnbbhcaaGreatDoor
namespace Go.Proofs.YtbmoehndnbbhcaaGreatDoor
set_option linter.unusedVariables false
set_option linter.unusedSimpArgs false
open Go Go.RowKit Go.MapKept
def lens (ts : List (List OpD)) : List Nat := ts.map (·.length)
theorem lens_get {ts : List (List OpD)} {i : Nat} {t : List OpD} (h : ts[i]? = some t) : (lens ts)[i]? = some t.length := by simp [lens, h]
theorem lens_len (ts : List (List OpD)) : (lens ts).length = ts.length := by simp [lens]
/-- threads that fit into memory -/
structure ThrFit (ts : List (List OpD)) : Prop where
  len : ts.length ≤ 4611686018427387904
  each : ∀ t ∈ ts, t.length ≤ 4611686018427387904
structure EvsFit (l : List EvD) : Prop where
  len : l.length ≤ 1048576
  thread : ∀ e ∈ l, I64 e.thread
  index : ∀ e ∈ l, I64 e.index
  res : ∀ e ∈ l, e.res.Fit
def SmallTo (ts : List (List OpD)) (i : Value) : Prop := ∃ j : Nat, j ≤ ts.length ∧ i = .int .i64 j ∧ ∀ k t, k < j → ts[k]? = some t → t.length ≤ 16
theorem big_of {ts : List (List OpD)} {i : Nat} {t : List OpD} (h : ts[i]? = some t) (hb : 16 < t.length) : BigP (lens ts) := Or.inr ⟨t.length, List.mem_of_getElem? (lens_get h), hb⟩
theorem small_of {ts : List (List OpD)} (h8 : ¬ 8 < ts.length) (h : ∀ k t, k < ts.length → ts[k]? = some t → t.length ≤ 16) : ¬ BigP (lens ts) := by
  rintro (hb | ⟨n, hn, hb⟩)
  · rw [lens_len] at hb; exact h8 hb
  · obtain ⟨t, ht, rfl⟩ := List.mem_map.1 hn
    obtain ⟨k, hk, e⟩ := List.getElem_of_mem ht
    have := h k t hk (by rw [List.getElem?_eq_getElem hk, e])
    omega
theorem below_drew' {B : Nat} {a b : World} (h : Below B a b) : Below B a b.drew := ⟨h.os, h.tape, h.output, h.size, h.block⟩
def intCells (cs : List Nat) : List Value := cs.map fun c : Nat => Value.int .i64 (c : Int)
theorem made_zeros (k : Nat) : (madeCells (Value.int .i64 0).cells (k * 1)) = (intCells (List.replicate k 0)).toArray := by
  have hC : (Value.int .i64 0).cells = #[Value.int .i64 0] := rfl
  rw [hC]
  apply Array.ext'
  apply List.ext_getElem?
  intro i
  by_cases hi : i < k
  · simp [madeCells, intCells, hi, Nat.mod_one]
  · simp [madeCells, intCells, hi]
theorem intInfo : (Tryz.prog.info? 3).map (fun i => (i.zero, i.size, i.bytes)) = some (some (.int .i64 0), 1, 8) := by kernel_rfl
theorem make_ints (k : Nat) (hk : k ≤ 1048576) (W : World) : (Instr.makeSlice 39 (.int .i64 (k : Int)) (.int .i64 (k : Int))).run Tryz.prog W = .ok (.slice (some ⟨W.heap.size, 0, none⟩) k k) (W.alloc (.cells (intCells (List.replicate k 0)).toArray 3)) := by
  obtain ⟨i0, hi, hz0, hz1, hz2⟩ := info_parts3 intInfo
  have hr := run_make (P := Tryz.prog) W 39 3 i0 _ Tryz.underlying39 hi hz0 .i64 .i64 k k (by omega) (Int.le_refl _) (by rw [hz2]; omega) (by omega)
  simp only [Int.toNat_natCast] at hr
  rw [hz1, made_zeros] at hr
  exact hr
theorem int_cell {W : World} {b : Nat} {cs : List Nat} {T : TypeId} (h : W.heap[b]? = some (.cells (intCells cs).toArray T (0, 0))) {i c : Nat} (hc : cs[i]? = some c) : W.cell? ⟨b, i, none⟩ = some (.int .i64 c) := by
  have := blk_cell h i
  rw [this]
  simp [intCells, hc]
theorem cells_set {w : World} {k j : Nat} {cs : Array Value} {t : TypeId} {f : Nat × Nat} (h : w.heap[k]? = some (.cells cs t f)) (u : Value) : (w.setCell ⟨k, j, none⟩ u).heap[k]? = some (.cells (cs.setIfInBounds j u) t f) := by
  rw [setCell_eq_setRow w k j cs t f u h]
  exact setRow_heap w k _ _ t _ h
theorem int_store {W : World} {b : Nat} {cs : List Nat} {T : TypeId} {f : Nat × Nat} (h : W.heap[b]? = some (.cells (intCells cs).toArray T f)) (i c : Nat) : (W.setCell ⟨b, i, none⟩ (.int .i64 (c : Int))).heap[b]? = some (.cells (intCells (cs.set i c)).toArray T f) := by
  rw [cells_set h]
  simp [intCells, List.map_set]
theorem res_zero_of {r : ResF} (h1 : r.err = 0) (h2 : ¬ r.found = true) (h3 : r.value = 0) (h4 : r.key.toList = []) (h5 : r.count = 0) (h6 : r.ref = 0) (h7 : r.root = 0) (h8 : ¬ r.ro = true) : r = ResF.zero := by
  obtain ⟨a, b, c, d, e, f, g, h⟩ := r
  simp only at h1 h2 h3 h4 h5 h6 h7 h8
  subst h1 h3 h5 h6 h7
  have hb : b = false := by simpa using h2
  have hh : h = false := by simpa using h8
  have hd : d = ⟨#[]⟩ := bytes_ext _ _ (by rw [h4]; unfold ByteArray.toList ByteArray.toList.loop; simp [ByteArray.size])
  subst hb hh hd
  rfl
def RkRel (w : World) (n : Nat) (ops : List Nat) (l : List EvD) (i : Value) (wr : World) : Prop :=
  ∃ j : Nat, j ≤ l.length ∧ i = .int .i64 j ∧ (∀ k e, k < j → l[k]? = some e → EvOk ops l k e) ∧ wr.heap[w.heap.size]? = some (.cells (intCells (cnts n l j)).toArray 3 (0, 0)) ∧ Below w.heap.size w wr
set_option maxRecDepth 100000 in
set_option maxHeartbeats 2000000 in
theorem rcheck_any (w : World) (A B : Option Addr) (c d : Nat) (ts : List (List OpD)) (l : List EvD) (hA : ThrAt w A ts) (hB : EvsAt w B l) (ft : ThrFit ts) (fe : EvsFit l) :
    Calls Tryz.prog 5 #[.slice A ts.length c, .slice B l.length d] w fun e w' => e = .returned (.int .i64 (checkP (lens ts) l)) ∧ Below w.heap.size w w' := by
  have HA := Lib.hid hA
  have HB := Lib.hid hB
  have FE := Lib.hid fe
  have hl1 := ft.len
  have hl2 := fe.len
  have hl3 := ft.each
  have HE := Lib.hid hl3
  clear hA hB ft fe hl3
  by_cases h8 : 8 < ts.length
  · have R := Lib.hid (check_big (l := l) (ops := lens ts) (Or.inl (by rw [lens_len]; exact h8)))
    go_enter Tryz.func5, Tryz.ntmps5
    go_wp2_with fail
    go_ret
    exact ⟨ret_int R.out.symm, Below.refl _ _⟩
  go_enter Tryz.func5, Tryz.ntmps5
  go_wp2_with fail
  go_loop [5] (fun i => SmallTo ts i) (fun i => ts.length - (intOf i).toNat)
  case atStart => exact ⟨0, by omega, rfl, fun k x hk => by omega⟩
  case round =>
    obtain ⟨j, hj, rfl, hne⟩ := hrel
    have NE := Lib.hid hne
    clear hne
    by_cases hlt : j < ts.length
    · obtain ⟨t, ht⟩ : ∃ t, ts[j]? = some t := ⟨_, List.getElem?_eq_getElem hlt⟩
      obtain ⟨b, off, rfl, hb, hc⟩ := HA.out (by omega)
      obtain ⟨u, cu, c0, _⟩ := hc j t ht
      have hj0 : (0 : Int) ≤ j := by omega
      have hj1 : (j : Int) < ts.length := by omega
      have htl := HE.out t (List.mem_of_getElem? ht)
      have HX := Lib.hid ht
      clear ht hc
      by_cases hn : 16 < t.length
      · have R := Lib.hid (check_big (l := l) (big_of HX.out hn))
        go_wp2_with fail
        go_ret
        exact ⟨ret_int R.out.symm, Below.refl _ _⟩
      · go_wp2_with fail
        go_round
        case rel =>
          refine ⟨j + 1, by omega, by go_num, fun k y hk hy => ?_⟩
          by_cases hkj : k = j
          · subst hkj
            rw [HX.out] at hy
            obtain rfl := Option.some.inj hy
            omega
          · exact NE.out k y (by omega) hy
        case measure => simp [intOf]; omega
    · have SM := Lib.hid (small_of h8 fun k t hk ht => NE.out k t (by omega) ht)
      have hmk := make_ints ts.length (by omega)
      have z0 : 0 ≤ w.heap.size := Nat.zero_le _
      go_wp2_with fail
      clear hmk
      obtain ⟨W0, hW0⟩ : ∃ W0, W0 = w.alloc (.cells (intCells (List.replicate ts.length 0)).toArray 3) := ⟨_, rfl⟩
      have B0 : Hid (Below w.heap.size w W0) := by rw [hW0]; exact (Below.refl w.heap.size w).alloc (Nat.le_refl _) _
      have C0 : Hid (W0.heap[w.heap.size]? = some (.cells (intCells (cnts ts.length l 0)).toArray 3 (0, 0))) := by rw [hW0, cnts_zero]; exact (heap_alloc w _).1
      rw [← hW0]
      clear hW0
      go_loopw [7] (fun i wr => RkRel w ts.length (lens ts) l i wr) (fun i _ => l.length - (intOf i).toNat)
      case atStart => exact ⟨0, by omega, rfl, fun k e hk => by omega, C0.out, B0.out⟩
      case round =>
        obtain ⟨j, hj, rfl, hok, hcs, hbr⟩ := hrel
        have OK := Lib.hid hok
        have CS := Lib.hid hcs
        have BR := Lib.hid hbr
        clear hok hcs hbr
        by_cases hlt : j < l.length
        · obtain ⟨e, hx⟩ : ∃ e, l[j]? = some e := ⟨_, List.getElem?_eq_getElem hlt⟩
          obtain ⟨b, off, rfl, hb, hc⟩ := (HB.out.below BR.out) (by omega)
          have hmem := List.mem_of_getElem? hx
          have ft := FE.out.thread e hmem
          have fi := FE.out.index e hmem
          have fr := Lib.hid (FE.out.res e hmem)
          have e0 := hc j e hx 0 _ rfl
          have e1 := hc j e hx 1 _ rfl
          have e2 := hc j e hx 2 _ rfl
          have f0 := hc j e hx 3 _ rfl
          have f1 := hc j e hx 4 _ rfl
          have f2 := hc j e hx 5 _ rfl
          have f3 := hc j e hx 6 _ rfl
          have f4 := hc j e hx 7 _ rfl
          have f5 := hc j e hx 8 _ rfl
          have f6 := hc j e hx 9 _ rfl
          have f7 := hc j e hx 10 _ rfl
          simp only [Nat.add_zero] at e0
          have hj0 : (0 : Int) ≤ j := by omega
          have hj1 : (j : Int) < l.length := by omega
          have HX := Lib.hid hx
          clear hx hc hmem
          unfold I64 at ft fi
          by_cases t0 : e.thread < 0
          · have R : Hid (checkP (lens ts) l = 1) := check_bad SM.out fun hp => by have := (hp j e HX.out).t0; omega
            clear f0 f1 f2 f3 f4 f5 f6 f7 e1 e2
            go_wp2_with fail
            go_ret
            exact ⟨ret_int R.out.symm, BR.out⟩
          by_cases t1 : ts.length ≤ e.thread
          · have R : Hid (checkP (lens ts) l = 1) := check_bad SM.out fun hp => by have := (hp j e HX.out).t1; rw [lens_len] at this; omega
            clear f0 f1 f2 f3 f4 f5 f6 f7 e1 e2
            go_wp2_with fail
            go_ret
            exact ⟨ret_int R.out.symm, BR.out⟩
          obtain ⟨th, ix, rt, rs⟩ := e
          simp only at e0 e1 e2 f0 f1 f2 f3 f4 f5 f6 f7 t0 t1 ft fi fr
          obtain ⟨t, rfl⟩ : ∃ t : Nat, th = t := ⟨th.toNat, by omega⟩
          have tl : t < ts.length := by omega
          obtain ⟨tt, htt⟩ : ∃ tt, ts[t]? = some tt := ⟨_, List.getElem?_eq_getElem tl⟩
          obtain ⟨a, offA, rfl, ha, hac⟩ := (HA.out.below BR.out) (by omega)
          obtain ⟨u, cu, c0, _⟩ := hac t tt htt
          have hcn := cnts_get (l := l) (i := j) tl
          have hcc := int_cell CS.out hcn
          have hcj := cntT_le l j t
          have C1 := Lib.hid (And.intro hcn htt)
          have tt1 := HE.out tt (List.mem_of_getElem? htt)
          generalize hcg : cntT l j (t : Int) = c at *
          have CG := Lib.hid hcg
          clear hac hcn htt hcg
          have c0' : (0 : Int) ≤ (c : Int) / 2 := by omega
          by_cases h1 : ix = (c : Int) / 2
          case neg =>
            have R : Hid (checkP (lens ts) l = 1) := check_bad SM.out fun hp => by have := (hp j _ HX.out).idx; rw [CG.out] at this; simp only at this; omega
            have h1b : (ix == (c : Int) / 2) = false := by simpa using h1
            clear f0 f1 f2 f3 f4 f5 f6 f7 e2
            go_wp2_with fail
            go_ret
            exact ⟨ret_int R.out.symm, BR.out⟩
          subst h1
          by_cases h2 : c / 2 < tt.length
          case neg =>
            have R : Hid (checkP (lens ts) l = 1) := check_bad SM.out fun hp => by have := (hp j _ HX.out).lim tt.length (by simpa using lens_get C1.out.2); rw [CG.out] at this; omega
            have h2b : ¬ (c : Int) / 2 < tt.length := by omega
            clear f0 f1 f2 f3 f4 f5 f6 f7 e2 h2
            go_wp2_with fail
            go_ret
            exact ⟨ret_int R.out.symm, BR.out⟩
          have h2b : (c : Int) / 2 < tt.length := by omega
          have RZ : ∀ {T : TypeId} , True := trivial
          have fz : wr.frozen? ⟨w.heap.size, t, none⟩ = false := by simp [World.frozen?, CS.out]
          have GO : Hid (EvOk (lens ts) l j ⟨t, (c : Int) / 2, rt, rs⟩ → RkRel w ts.length (lens ts) l (.int .i64 ((j : Int) + 1)) (wr.setCell ⟨w.heap.size, t, none⟩ (.int .i64 ((c : Int) + 1)))) := fun hok => by
            refine ⟨j + 1, by omega, by go_num, fun k y hk hy => ?_, ?_, BR.out.setCell (p := ⟨w.heap.size, t, none⟩) (Nat.le_refl _) _⟩
            · by_cases hkj : k = j
              · subst hkj
                rw [HX.out] at hy
                obtain rfl := Option.some.inj hy
                exact hok
              · exact OK.out k y (by omega) hy
            · rw [cnts_succ HX.out rfl tl, CG.out]
              exact int_store CS.out t (c + 1)
          have G1 : Hid (rt = ((c : Int) % 2 == 1) → (rt = false → rs = ResF.zero) → EvOk (lens ts) l j ⟨t, (c : Int) / 2, rt, rs⟩) := fun hr hz => by
            refine ⟨by simp, by rw [lens_len]; show (t : Int) < _; omega, ?_, fun n hn => ?_, ?_, hz⟩
            · show (c : Int) / 2 = _
              rw [CG.out]; omega
            · rw [show (⟨t, (c : Int) / 2, rt, rs⟩ : EvD).thread.toNat = t by simp, lens_get C1.out.2] at hn
              obtain rfl := Option.some.inj hn
              rw [CG.out]; omega
            · show rt = _
              rw [hr, CG.out, Bool.eq_iff_iff]
              simp only [beq_iff_eq]
              omega
          clear RZ
          by_cases hpar : (c : Int) % 2 = 1
          · have hpb : ((c : Int) % 2 == 1) = true := by simpa using hpar
            cases rt with
            | false =>
              have R : Hid (checkP (lens ts) l = 1) := check_bad SM.out fun hp => by
                have := (hp j _ HX.out).ret
                rw [CG.out] at this
                have h3 : (c % 2 == 1) = true := by simp; omega
                rw [h3] at this
                simp at this
              clear f0 f1 f2 f3 f4 f5 f6 f7 fz
              go_wp2_with fail
              go_ret
              exact ⟨ret_int R.out.symm, BR.out⟩
            | true =>
              have G2 := Lib.hid (GO.out (G1.out hpb.symm (by simp)))
              clear f0 f1 f2 f3 f4 f5 f6 f7
              go_wp2_with fail
              go_roundw
              case rel => exact G2.out
              case measure => simp [intOf]; omega
          · have hpb : ((c : Int) % 2 == 1) = false := by simpa using hpar
            cases rt with
            | true =>
              have R : Hid (checkP (lens ts) l = 1) := check_bad SM.out fun hp => by
                have := (hp j _ HX.out).ret
                rw [CG.out] at this
                have h3 : (c % 2 == 1) = false := by simp; omega
                rw [h3] at this
                simp at this
              clear f0 f1 f2 f3 f4 f5 f6 f7 fz
              go_wp2_with fail
              go_ret
              exact ⟨ret_int R.out.symm, BR.out⟩
            | false =>
              by_cases hz : rs = ResF.zero
              · have G2 := Lib.hid (GO.out (G1.out hpb.symm (fun _ => hz)))
                subst hz
                simp only [ResF.zero] at f0 f1 f2 f3 f4 f5 f6 f7
                go_wp2_with fail
                go_roundw
                case rel => exact G2.out
                case measure => simp [intOf]; omega
              · have HZ := Lib.hid hz
                have R : Hid (checkP (lens ts) l = 1) := check_bad SM.out fun hp => hz ((hp j _ HX.out).res rfl)
                clear hz fz
                go_wp2_with fail
                all_goals first
                  | (exfalso; exact HZ.out (res_zero_of (by assumption) (by assumption) (by assumption) (by assumption) (by assumption) (by assumption) (by assumption) (by assumption)))
                  | (go_ret; exact ⟨ret_int R.out.symm, BR.out⟩)
        · have hje : j = l.length := by omega
          have R : Hid (checkP (lens ts) l = 0) := check_ok SM.out fun k e he => OK.out k e (by have := (List.getElem?_eq_some_iff.1 he).1; omega) he
          clear hje
          go_wp2_with fail
          go_ret
          exact ⟨ret_int R.out.symm, BR.out⟩
end Go.Proofs.YtbmoehndnbbhcaaGreatDoor
namespace Go.Proofs.YtbmoehndnbbhcaaGreatDoor
set_option linter.unusedVariables false
set_option linter.unusedSimpArgs false
open Go.RowKit Go.MapKept
def numP (ops : List Nat) (h : Int) : Option OpP := if h < 1 ∨ 128 < h then none else if ExP ops ((h - 1) / 16, (h - 1) % 16) then some ((h - 1) / 16, (h - 1) % 16) else none
/-- an operation had not returned well before another one was invoked -/
def lateP (l : List EvD) (a b : OpP) : Bool := match resultP l b with
  | none => true
  | some r => decide (r.err ≠ 0) || !beforeP l b a
def misP (k kb b0 a0 : Int) : Bool := if k = 13 then decide (kb ≠ 12) || decide (b0 ≠ a0) else decide (kb ≠ 8) && decide (kb ≠ 9)
def justP (ts : List (List OpD)) (l : List EvD) (a : OpP) : Bool :=
  if (opAt ts a).kind < 1 ∨ 13 < (opAt ts a).kind ∨ ((opAt ts a).kind ≠ 13 ∧ (opAt ts a).handle = 0) then false
  else match numP (lens ts) (opAt ts a).handle with
    | none => true
    | some b => misP (opAt ts a).kind (opAt ts b).kind b.1 a.1 || lateP l a b
def excusedP (ts : List (List OpD)) (l : List EvD) : Bool := (invokedP l).all fun a => !refusedP l a || justP ts l a
def membersP (l : List EvD) (order : List OpP) : Bool :=
  (order.all fun a => decide (a ∈ invokedP l) && decide (order.count a ≤ 1) && !refusedP l a) && ((invokedP l).all fun a => !(decide (whenP l a true ≠ -1) && !refusedP l a) || decide (a ∈ order))
def OrderedP (l : List EvD) (order : List OpP) : Prop := ∀ (i k : Nat) (x y : OpP), order[i]? = some x → order[k]? = some y → k < i → beforeP l x y = false
def playP (ts : List (List OpD)) (l : List EvD) : AFam → List OpP → Bool
  | _, [] => true
  | A, a :: r => (match resultP l a with | none => true | some want => decide ((applyA A a.1 a.2 (opAt ts a)).2.full = want)) && playP ts l (applyA A a.1 a.2 (opAt ts a)).1 r
open Classical in
noncomputable def acceptsP (mask : Int) (ts : List (List OpD)) (l : List EvD) (order : List OpP) : Int :=
  if checkP (lens ts) l ≠ 0 then checkP (lens ts) l
  else if excusedP ts l = false then 8
  else if membersP l order = false then 1
  else if ¬ OrderedP l order then 2
  else if playP ts l ⟨mask, [(0, ⟨[], false⟩)], []⟩ order = false then 8
  else 0
theorem exc_bad {ops : List Nat} {ts : List (List OpD)} {l : List EvD} (hp : ProperP ops l) {a : OpP} (h : refusedP l a = true) (hj : justP ts l a = false) : excusedP ts l = false := by
  unfold excusedP
  rw [List.all_eq_false]
  refine ⟨a, mem_invoked.2 ?_, by simp [h, hj]⟩
  have := (hp.when_back (refused_back h)).1
  omega
theorem exc_good {ops : List Nat} {ts : List (List OpD)} {l : List EvD} (hp : ProperP ops l) (h : ∀ a, ExP ops a → refusedP l a = true → justP ts l a = true) : excusedP ts l = true := by
  unfold excusedP
  rw [List.all_eq_true]
  intro a ha
  cases hr : refusedP l a with
  | false => simp
  | true => simp [h a (hp.ex (mem_invoked.1 ha)) hr]
theorem mem_bad1 {l : List EvD} {order : List OpP} {k : Nat} {a : OpP} (ha : order[k]? = some a) (h : whenP l a false = -1 ∨ refusedP l a = true ∨ a ∈ order.take k) : membersP l order = false := by
  unfold membersP
  rw [Bool.and_eq_false_iff]
  left
  rw [List.all_eq_false]
  refine ⟨a, List.mem_of_getElem? ha, ?_⟩
  rcases h with h | h | h
  · have : a ∉ invokedP l := fun hm => mem_invoked.1 hm h
    simp [this]
  · simp [h]
  · have h1 : order = order.take k ++ order.drop k := (List.take_append_drop k order).symm
    have h2 : a ∈ order.drop k := by
      rw [List.drop_eq_getElem_cons (List.getElem?_eq_some_iff.1 ha).1, (List.getElem?_eq_some_iff.1 ha).2]
      exact .head _
    have h3 : 2 ≤ order.count a := by
      rw [h1, List.count_append]
      have := List.count_pos_iff.2 h
      have := List.count_pos_iff.2 h2
      omega
    have : ¬ order.count a ≤ 1 := by omega
    simp [this]
theorem mem_bad2 {ops : List Nat} {l : List EvD} (hp : ProperP ops l) {order : List OpP} {a : OpP} (hw : whenP l a true ≠ -1) (hr : refusedP l a = false) (hn : a ∉ order) : membersP l order = false := by
  unfold membersP
  rw [Bool.and_eq_false_iff]
  right
  rw [List.all_eq_false]
  refine ⟨a, mem_invoked.2 ?_, by simp [hw, hr, hn]⟩
  have := (hp.when_back hw).1
  omega
def GoodO (l : List EvD) (order : List OpP) (n : Nat) : Prop := ∀ (k : Nat) (a : OpP), k < n → order[k]? = some a → whenP l a false ≠ -1 ∧ refusedP l a = false ∧ a ∉ order.take k
theorem good_nodup {l : List EvD} {order : List OpP} (h : GoodO l order order.length) : order.Nodup := by
  unfold List.Nodup
  rw [List.pairwise_iff_getElem]
  intro i j hi0 hj hij e
  obtain ⟨a, ha⟩ : ∃ a, order[j]? = some a := ⟨_, List.getElem?_eq_getElem hj⟩
  have hi : order[i]? = some a := by rw [List.getElem?_eq_getElem hi0, e, ← List.getElem?_eq_getElem hj]; exact ha
  refine (h j a hj ha).2.2 ?_
  refine List.mem_of_getElem? (i := i) ?_
  rw [List.getElem?_take, if_pos hij]
  exact hi
theorem mem_good {ops : List Nat} {l : List EvD} (hp : ProperP ops l) {order : List OpP} (h : GoodO l order order.length) (h2 : ∀ a, ExP ops a → whenP l a true ≠ -1 → refusedP l a = false → a ∈ order) : membersP l order = true := by
  unfold membersP
  rw [Bool.and_eq_true, List.all_eq_true, List.all_eq_true]
  refine ⟨fun a ha => ?_, fun a ha => ?_⟩
  · obtain ⟨k, hk, e⟩ := List.getElem_of_mem ha
    obtain ⟨h1, h3, _⟩ := h k a hk (by rw [List.getElem?_eq_getElem hk, e])
    have hc : order.count a ≤ 1 := (List.nodup_iff_count.1 (good_nodup h)) a
    simp [mem_invoked.2 h1, h3, hc]
  · by_cases hw : whenP l a true = -1
    · simp [hw]
    · cases hr : refusedP l a with
      | true => simp
      | false => simp [h2 a (hp.ex hw) hw hr]
end Go.Proofs.YtbmoehndnbbhcaaGreatDoor
