/- The walk of the law's numbers; the numbers of a family are small. -/
import Derived.Test.YtagfghihnkkfiaaSame
import Derived.Test.YtagfghihnkkfiaaRApB
import Derived.Test.YtagfghihnkkfiaaTapeO
namespace Go.Proofs.Ytagfghihnkkfiaa
set_option linter.unusedVariables false
set_option linter.unusedSimpArgs false
open Go Go.RowKit Go.MapKept
theorem int_row : (Try.prog.info? 3).map (fun i => (i.zero, i.size, i.bytes)) = some (some (.int .i64 0), 1, 8) := by kernel_rfl
def IsInt (u : Value) : Prop := ∃ z : Int, u = .int .i64 z ∧ -9223372036854775808 ≤ z ∧ z ≤ 9223372036854775807
theorem IsInt.one {u : Value} (h : IsInt u) : u.oneCell' = true := by
  obtain ⟨z, rfl, _⟩ := h
  rfl
/-- a row of numbers that is being made -/
def NumRow (w : World) (v : Value) (n : Nat) (wr : World) : Prop :=
  ∃ (g c : Nat) (xs : List Value), v = .slice (some ⟨g, 0, none⟩) n c ∧ wr.ownsRow (w.heap.size + 1) 3 1 (.slice (some ⟨g, 0, none⟩) n c) n xs ∧ (∀ u ∈ xs, IsInt u) ∧ Below w.heap.size w wr
def NumRel (w : World) (len base : Nat) (v3 v : Value) (wr : World) : Prop := ∃ j : Nat, v = .int .i64 j ∧ j ≤ len ∧ NumRow w v3 (base + 2 * j) wr
/-- what numbers answers -/
def NumPost (w : World) (e : Ending) (w' : World) : Prop := ∃ (g n c : Nat), e = .returned (.slice (some ⟨g, 0, none⟩) n c) ∧ NumsAt w' g n ∧ 1 ≤ n ∧ n ≤ 1048576 ∧ w.heap.size ≤ g ∧ Below w.heap.size w w'
theorem NumRow.post {w wr : World} {v : Value} {n : Nat} (h : NumRow w v n wr) (h1 : 1 ≤ n) (h2 : n ≤ 1048576) : NumPost w (.returned v) wr := by
  obtain ⟨g, c, xs, rfl, hr, hi, hb⟩ := h
  have hc := hr.cells (g := g) rfl
  have hl := hr.1
  refine ⟨g, n, c, rfl, ⟨row_lt hr rfl, fun k hk => ?_⟩, h1, h2, (by have := (row_kind hr (g := g) rfl).1; omega), hb⟩
  obtain ⟨u, hu⟩ : ∃ u, xs[k]? = some u := ⟨_, List.getElem?_eq_getElem (by omega)⟩
  obtain ⟨z, rfl, hz⟩ := hi u (List.mem_of_getElem? hu)
  have := hc k _ hu
  rw [raddr] at this
  exact ⟨z, this, hz⟩
theorem NumRow.more {w wr w5 : World} {g3 n c3 c5 : Nat} {a5 : Option Addr} {xs : List Value} {z : Int} {o1 o2 : Obj} (hr : wr.ownsRow (w.heap.size + 1) 3 1 (.slice (some ⟨g3, 0, none⟩) n c3) n xs) (hi : ∀ u ∈ xs, IsInt u) (hb : Below w.heap.size w wr) (hz : -9223372036854775808 ≤ z ∧ z ≤ 9223372036854775807) (h0 : w.heap.size < wr.heap.size)
    (ho : w5.ownsRow (w.heap.size + 1) 3 1 (.slice a5 (n + 2) c5) (n + 2) (xs ++ [.int .i64 z, .int .i64 z])) (hg : ((wr.alloc o1).alloc o2).grownBy w5 (Value.ownBlock (.slice (some ⟨g3, 0, none⟩) n c3))) :
    NumRow w (.slice a5 (n + 2) c5) (n + 2) w5 ∧ w5.heap[w.heap.size]? = wr.heap[w.heap.size]? := by
  obtain ⟨g5, c5', hv⟩ := row_some ho (by omega)
  simp only [Value.slice.injEq, true_and] at hv
  obtain ⟨rfl, rfl⟩ := hv
  have hg3 := (row_kind hr (g := g3) rfl).1
  refine ⟨⟨g5, c5, _, rfl, ho, fun u hu => ?_, ((hb.alloc hb.size o1).alloc (by have := hb.size; simp; omega) o2).grown hg (by have := hb.size; simp; omega) (fun k hk => by have e : g3 = k := Option.some.inj hk; omega)⟩, ?_⟩
  · rcases List.mem_append.1 hu with hu | hu
    · exact hi u hu
    · simp only [List.mem_cons, List.not_mem_nil, or_false] at hu
      rcases hu with rfl | rfl <;> exact ⟨_, rfl, hz⟩
  · refine (hg.block _ (by simp; omega) (fun e => ?_)).trans ((Below.heap_alloc _ _ _ (by simp; omega)).trans (Below.heap_alloc _ _ _ h0))
    have e' : w.heap.size = g3 := (Option.some.inj e)
    omega
set_option maxRecDepth 100000 in
set_option maxHeartbeats 2000000 in
theorem numbers_any (T : Nat → Prop) (w : World) (A D : Option Addr) (c d : Nat) (g : RFam) (h : RFamAt T w A D g) (hm : g.maps.length ≤ 1000) (hw : g.walks.length ≤ 1000) (nm : ∀ x ∈ g.maps, -9223372036854775808 ≤ x.num ∧ x.num ≤ 9223372036854775807) (nw : ∀ x ∈ g.walks, -9223372036854775808 ≤ x.1 ∧ x.1 ≤ 9223372036854775807) :
    Calls Try.prog 22 #[rfamV g A c D d] w (NumPost w) := by
  obtain ⟨W0, hW0⟩ : ∃ W0, W0 = (w.alloc (.cells #[.int .u64 g.mask, .slice A g.maps.length c, .slice D g.walks.length d] 59)).alloc (.cells #[.int .i64 0, .int .i64 0, .int .i64 (-1), .int .i64 700] 3) := ⟨_, rfl⟩
  obtain ⟨hb0, hk0, hk1, hs0⟩ := refu_w w (.cells #[.int .u64 g.mask, .slice A g.maps.length c, .slice D g.walks.length d] 59) (.cells #[.int .i64 0, .int .i64 0, .int .i64 (-1), .int .i64 700] 3)
  rw [← hW0] at hb0 hk0 hk1 hs0
  have z0 : w.heap.size < W0.heap.size := by omega
  have KE : Hid (∀ W, Below W0.heap.size W0 W → W.cell? ⟨w.heap.size, 0, none⟩ = some (.int .u64 g.mask) ∧ W.cell? ⟨w.heap.size, 1, none⟩ = some (.slice A g.maps.length c) ∧ W.cell? ⟨w.heap.size, 2, none⟩ = some (.slice D g.walks.length d)) := fun W hb => fam_cells ((hb.block _ z0).trans hk0)
  have R0 : Hid (NumRow w (.slice (some ⟨w.heap.size + 1, 0, none⟩) 4 4) 4 W0) := ⟨w.heap.size + 1, 4, [.int .i64 0, .int .i64 0, .int .i64 (-1), .int .i64 700], rfl, by
    have hr := World.ownsRow_lit (base := w.heap.size + 1) (e := 3) (size := 1) (w.alloc (.cells #[.int .u64 g.mask, .slice A g.maps.length c, .slice D g.walks.length d] 59)) #[.int .i64 0, .int .i64 0, .int .i64 (-1), .int .i64 700] 4 (by simp) (by unfold maxLen; omega) rfl
    rw [show (w.alloc (.cells #[.int .u64 g.mask, .slice A g.maps.length c, .slice D g.walks.length d] 59)).heap.size = w.heap.size + 1 by simp] at hr
    rw [hW0]
    exact hr, fun u hu => by
    simp only [List.mem_cons, List.not_mem_nil, or_false] at hu
    rcases hu with rfl | rfl | rfl | rfl <;> exact ⟨_, rfl, by decide, by decide⟩, hb0⟩
  have HM := Lib.hid h.maps
  have HK := Lib.hid h.walks
  have NM := Lib.hid nm
  have NW := Lib.hid nw
  have HW := Lib.hid hW0
  have BB := Lib.hid (Below.refl W0.heap.size W0)
  obtain ⟨y0, y1, y2⟩ := KE.out W0 BB.out
  have FR : Hid (∀ W, Below w.heap.size w W → W.heap[w.heap.size]? = W0.heap[w.heap.size]? → W.cell? ⟨w.heap.size, 1, none⟩ = some (.slice A g.maps.length c) ∧ W.cell? ⟨w.heap.size, 2, none⟩ = some (.slice D g.walks.length d)) := fun W hb he => (fam_cells (he.trans hk0)).2
  clear h nm nw hW0 hb0 hk0 hk1 hs0
  simp only [rfamV]
  go_enter Try.func22, Try.ntmps22
  go_upto_region 2 with fail
  rw [← HW.out]
  go_wp2_with fail
  clear y0 y1 y2
  go_loopw [12, 3] (fun v12 v3 wr => NumRel w g.maps.length 4 v3 v12 wr ∧ wr.heap[w.heap.size]? = W0.heap[w.heap.size]?) (fun v12 _ _ => g.maps.length - (intOf v12).toNat)
  case atStart => exact ⟨⟨0, rfl, by omega, R0.out⟩, rfl⟩
  case round =>
    obtain ⟨⟨j, rfl, hj, g3, c3, xs, rfl, hr, hi, hb⟩, hbox⟩ := hrel
    have RR := Lib.hid hr
    have IX := Lib.hid hi
    have BR := Lib.hid hb
    have BO := Lib.hid hbox
    clear hr hi hb hbox
    have h0 : w.heap.size < wr.heap.size := by
      have h1 := (row_lt RR.out (g := g3) rfl)
      have h2 := (row_kind RR.out (g := g3) rfl).1
      omega
    by_cases hlt : j < g.maps.length
    · obtain ⟨x, hx⟩ : ∃ x, g.maps[j]? = some x := ⟨_, List.getElem?_eq_getElem hlt⟩
      obtain ⟨b, rfl, hT, hbz, hc⟩ := HM.out (by omega)
      obtain ⟨u, cu, e0, e1, e2, _⟩ := hc j x hx
      have hz := NM.out x (List.mem_of_getElem? hx)
      have f0 := (BR.out.cell (p := ⟨b, _, none⟩) hbz).trans e0
      have f1 := (BR.out.cell (p := ⟨b, _, none⟩) hbz).trans e1
      have f2 := (BR.out.cell (p := ⟨b, _, none⟩) hbz).trans e2
      have hj0 : (0 : Int) ≤ j := by omega
      have hj1 : (j : Int) < g.maps.length := by omega
      clear hx hT hc e0 e1 e2
      go_wp2_with (at_builtin; refine stopAt ?_)
      unfold StopAt
      refine wpList_app 23 3 Try.underlying23 _ 1 8 int_row rfl (by decide) rfl _ _ rfl (w.heap.size + 1) _ (.slice (some ⟨g3, 0, none⟩) (4 + 2 * j) c3) (4 + 2 * j) xs rfl ((RR.out.alloc _).alloc _) ⟨_, 0, none⟩ 2 2 [.int .i64 x.num, .int .i64 x.num] rfl rfl (new_cells (T := 3) ?hn3) (by intro v hv; simp only [List.mem_cons, List.not_mem_nil, or_false] at hv; rcases hv with rfl | rfl <;> rfl) (by simp; omega) (by unfold maxLen; omega) (by omega) ?_
      case hn3 =>
        first
          | exact (heap_alloc _ _).1
          | exact newfam_block _ _ _
      intro a5 c5 w5 ho5 hg5
      obtain ⟨hn5, hbx5⟩ := NumRow.more RR.out IX.out BR.out hz h0 ho5 hg5
      have N5 := Lib.hid hn5
      have X5 := Lib.hid (hbx5.trans BO.out)
      clear ho5 hg5 hn5 hbx5 f0 f1 f2
      go_wp2_with fail
      go_roundw
      case rel => exact ⟨⟨j + 1, by go_num, by omega, N5.out⟩, X5.out⟩
      case measure => simp [intOf]; omega
    · obtain rfl : j = g.maps.length := by omega
      obtain ⟨y1, y2⟩ := FR.out _ BR.out BO.out
      go_wp2_with fail
      go_loopw [27, 3] (fun v12 v3 wr => NumRel w g.walks.length (4 + 2 * g.maps.length) v3 v12 wr ∧ wr.heap[w.heap.size]? = W0.heap[w.heap.size]?) (fun v12 _ _ => g.walks.length - (intOf v12).toNat)
      case atStart => exact ⟨⟨0, rfl, by omega, ⟨g3, c3, xs, rfl, RR.out, IX.out, BR.out⟩⟩, BO.out⟩
      case round =>
        clear RR IX BR BO y1 y2
        obtain ⟨⟨j, rfl, hj, g3, c3, xs, rfl, hr, hi, hb⟩, hbox⟩ := hrel
        have RR := Lib.hid hr
        have IX := Lib.hid hi
        have BR := Lib.hid hb
        have BO := Lib.hid hbox
        clear hr hi hb hbox
        have h0 : w.heap.size < wr.heap.size := by
          have h1 := (row_lt RR.out (g := g3) rfl)
          have h2 := (row_kind RR.out (g := g3) rfl).1
          omega
        by_cases hlt : j < g.walks.length
        · obtain ⟨x, hx⟩ : ∃ x, g.walks[j]? = some x := ⟨_, List.getElem?_eq_getElem hlt⟩
          obtain ⟨b, rfl, hT, hbz, hc⟩ := HK.out (by omega)
          obtain ⟨e0, e1, e2, e3⟩ := hc j x hx
          have hz := NW.out x (List.mem_of_getElem? hx)
          have f0 := (BR.out.cell (p := ⟨b, _, none⟩) hbz).trans e0
          have f1 := (BR.out.cell (p := ⟨b, _, none⟩) hbz).trans e1
          have f2 := (BR.out.cell (p := ⟨b, _, none⟩) hbz).trans e2
          have f3 := (BR.out.cell (p := ⟨b, _, none⟩) hbz).trans e3
          have hj0 : (0 : Int) ≤ j := by omega
          have hj1 : (j : Int) < g.walks.length := by omega
          clear hx hT hc e0 e1 e2 e3
          go_wp2_with (at_builtin; refine stopAt ?_)
          unfold StopAt
          refine wpList_app 23 3 Try.underlying23 _ 1 8 int_row rfl (by decide) rfl _ _ rfl (w.heap.size + 1) _ (.slice (some ⟨g3, 0, none⟩) (4 + 2 * g.maps.length + 2 * j) c3) (4 + 2 * g.maps.length + 2 * j) xs rfl ((RR.out.alloc _).alloc _) ⟨_, 0, none⟩ 2 2 [.int .i64 x.1, .int .i64 x.1] rfl rfl (new_cells (T := 3) ?hn4) (by intro v hv; simp only [List.mem_cons, List.not_mem_nil, or_false] at hv; rcases hv with rfl | rfl <;> rfl) (by simp; omega) (by unfold maxLen; omega) (by omega) ?_
          case hn4 =>
            first
              | exact (heap_alloc _ _).1
              | exact newfam_block _ _ _
          intro a5 c5 w5 ho5 hg5
          obtain ⟨hn5, hbx5⟩ := NumRow.more RR.out IX.out BR.out hz h0 ho5 hg5
          have N5 := Lib.hid hn5
          have X5 := Lib.hid (hbx5.trans BO.out)
          clear ho5 hg5 hn5 hbx5 f0 f1 f2 f3
          go_wp2_with fail
          go_roundw
          case rel => exact ⟨⟨j + 1, by go_num, by omega, N5.out⟩, X5.out⟩
          case measure => simp [intOf]; omega
        · obtain rfl : j = g.walks.length := by omega
          go_wp2_with fail
          go_ret
          exact NumRow.post ⟨g3, c3, xs, rfl, RR.out, IX.out, BR.out⟩ (by omega) (by omega)
end Go.Proofs.Ytagfghihnkkfiaa
