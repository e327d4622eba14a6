/- The walks of package model, ninth part: next moves on; how a change of one part leaves the family. -/
import Derived.Test.YtagfghihnkkfiaaPlFou
namespace Go.Proofs.Ytagfghihnkkfiaa
set_option linter.unusedVariables false
set_option linter.unusedSimpArgs false
open Go.RowKit Go.MapKept
/-- what lies there when the pair has been read -/
def NextMid (w : World) (it1 it2 : Int) (P : Nat) (x : ByteArray × Int) (s7 : Value) (wx : World) : Prop :=
  ∃ g7, s7 = .pointer (some ⟨g7, 0, none⟩) ∧ wx.heap[g7]? = some (.cells #[.string x.1, .int .u64 x.2] 45 (0, 0)) ∧ w.heap.size + 1 < g7 ∧
    wx.heap[w.heap.size]? = some (.cells (ResD.cells {}) 35 (0, 0)) ∧ wx.heap[w.heap.size + 1]? = some (.cells #[.int .i64 it1, .int .i64 it2, .int .i64 P] 86 (0, 0)) ∧ Below w.heap.size w wx
theorem mid_new {w w1 : World} {it1 it2 : Int} {P : Nat} {x : ByteArray × Int} (r0 : w1.heap[w.heap.size]? = some (.cells (ResD.cells {}) 35 (0, 0))) (r1 : w1.heap[w.heap.size + 1]? = some (.cells #[.int .i64 it1, .int .i64 it2, .int .i64 P] 86 (0, 0))) (bw : Below w.heap.size w w1) :
    NextMid w it1 it2 P x (.pointer (some ⟨w1.heap.size, 0, none⟩)) (w1.alloc (.cells #[.string x.1, .int .u64 x.2] 45)) := by
  have hs : w.heap.size + 1 < w1.heap.size := (Array.getElem?_eq_some_iff.1 r1).1
  exact ⟨w1.heap.size, rfl, (heap_alloc w1 _).1, hs, (alloc_old w1 _ _ (by omega)).trans r0, (alloc_old w1 _ _ (by omega)).trans r1, bw.alloc (by omega) _⟩
theorem mid_old {w w1 : World} {it1 it2 : Int} {P : Nat} {x : ByteArray × Int} {a b : Value} (r0 : w1.heap[w.heap.size]? = some (.cells (ResD.cells {}) 35 (0, 0))) (r1 : w1.heap[w.heap.size + 1]? = some (.cells #[.int .i64 it1, .int .i64 it2, .int .i64 P] 86 (0, 0))) (bw : Below w.heap.size w w1)
    (r3 : w1.heap[w.heap.size + 1 + 1 + 1]? = some (.cells #[a, b] 45 (0, 0))) :
    NextMid w it1 it2 P x (.pointer (some ⟨w.heap.size + 1 + 1 + 1, 0, none⟩)) ((w1.setCell ⟨w.heap.size + 1 + 1 + 1, 0, none⟩ (.string x.1)).setCell ⟨w.heap.size + 1 + 1 + 1, 1, none⟩ (.int .u64 x.2)) := by
  refine ⟨_, rfl, ?_, by omega, ?_, ?_, (bw.setCell (by show w.heap.size ≤ w.heap.size + 1 + 1 + 1; omega) _).setCell (by show w.heap.size ≤ w.heap.size + 1 + 1 + 1; omega) _⟩
  · exact blk_set (blk_set r3 0 _) 1 _
  · rw [Below.heap_setCell _ _ _ _ (by show w.heap.size ≠ w.heap.size + 1 + 1 + 1; omega), Below.heap_setCell _ _ _ _ (by show w.heap.size ≠ w.heap.size + 1 + 1 + 1; omega)]; exact r0
  · rw [Below.heap_setCell _ _ _ _ (by show w.heap.size + 1 ≠ w.heap.size + 1 + 1 + 1; omega), Below.heap_setCell _ _ _ _ (by show w.heap.size + 1 ≠ w.heap.size + 1 + 1 + 1; omega)]; exact r1
set_option maxRecDepth 100000 in
set_option maxHeartbeats 4000000 in
theorem next_step (w : World) (bf bm bi : Nat) (F : FamD) (N : Nat) (hN : N ≤ 1099511627776) (hok : FamOk N F) (h : FamIs w bf bm bi F) (n : Int) (it : IterD) (d : MapD) (hi : alook F.iters n = some it) (hm : alook F.maps it.number = some d) (hp : it.pos < (d.vals.length : Int)) :
    Calls Try.prog 34 #[.pointer (some ⟨bf, 0, none⟩), .int .i64 n] w fun e w' => e = .returned (.agg (nextR F it d).cells) ∧ FamIs w' bf bm bi (nextF F n it d) ∧ Only (F.own bf bm bi) w w' := by
  have hpos := hok.poss _ (alook_mem hi)
  have hlf := h.lt (k := bf) (Or.inl rfl)
  have hlm := h.lt (k := bm) (Or.inr (Or.inl rfl))
  have hli := h.lt (k := bi) (Or.inr (Or.inr (Or.inl rfl)))
  have hmem := alook_mem hm
  have hlr := (h.vals _ hmem).lt
  obtain ⟨c0, c1, c2⟩ := h.cell
  have hl1 := h.look_iters n false
  have hl2 := h.look_maps it.number false
  rw [hi] at hl1
  rw [hm] at hl2
  have hln := fun (W : World) (hW : W.heap[d.ref]? = w.heap[d.ref]?) ty => MapIs.len (P := Try.prog) Try.underlying72 ((h.vals _ hmem).of_block hW) ty
  have HH := Lib.hid h
  have OF := Lib.hid (fun W (hW : FamIs W bf bm bi F) => ordered_fam W bf bm bi F N hN hok hW it.number d hm)
  simp only [if_false, Bool.false_eq_true, outOf, itV, mapV] at hl1 hl2 OF
  obtain ⟨a1, a2, a3⟩ := blocks_alloc hlm
  obtain ⟨b1, b2, b3⟩ := blocks_alloc hli
  obtain ⟨e1, e2, e3⟩ := blocks_alloc hlr
  obtain ⟨k2, k3⟩ := cells_alloc hlf
  have hd := drew_heap
  obtain ⟨it1, it2, it3⟩ := it
  obtain ⟨r, L, ro⟩ := d
  simp only at *
  clear h hi hm hmem hok
  obtain ⟨P, rfl⟩ := Int.eq_ofNat_of_zero_le hpos.1
  have hPL : P < L.length := by omega
  obtain ⟨x, hx⟩ : ∃ x, (sortedOf F.mask L)[P]? = some x := ⟨_, List.getElem?_eq_getElem (by rw [sortedOf_length]; exact hPL)⟩
  have X := Lib.hid (show nextR F ⟨it1, it2, (P : Int)⟩ ⟨r, L, ro⟩ = { found := true, key := x.1, value := x.2 } by
    unfold nextR
    rw [if_neg (by show ¬ (L.length : Int) ≤ (P : Int); omega)]
    simp only [Int.toNat_natCast]
    rw [hx]
    rfl)
  have Y := Lib.hid (show nextF F n ⟨it1, it2, (P : Int)⟩ ⟨r, L, ro⟩ = { F with iters := aset F.iters n ⟨it1, it2, (P : Int) + 1⟩ } from if_neg (by show ¬ (L.length : Int) ≤ (P : Int); omega))
  have HX := Lib.hid hx
  clear hx
  go_enter Try.func34, Try.ntmps34
  go_wp2_with fail
  go_region
  go_upto_region 5 with fail
  go_cut [7] (fun s7 wx => NextMid w it1 it2 P x s7 wx)
  case first =>
    go_region_with (go_at_call 35; refine (OF.out _ (HH.out.below ?hb)).mono ?_; (case hb => repeat (first | exact Below.refl _ _ | refine Below.drew ?_ | refine Below.alloc ?_ (by simp; try omega) _)); rintro e w1 ⟨v, rfl, g, rfl, hg1, hg2⟩; have q0 : w1.cell? ⟨w.heap.size + 1, 0, none⟩ = some (.int .i64 it1) := ((hg2.cell (p := ⟨w.heap.size + 1, 0, none⟩) (by simp; try omega)).trans (by simp [go_sem])); have q1 : w1.cell? ⟨w.heap.size + 1, 1, none⟩ = some (.int .i64 it2) := ((hg2.cell (p := ⟨w.heap.size + 1, 1, none⟩) (by simp; try omega)).trans (by simp [go_sem])); have q2 : w1.cell? ⟨w.heap.size + 1, 2, none⟩ = some (.int .i64 (P : Int)) := ((hg2.cell (p := ⟨w.heap.size + 1, 2, none⟩) (by simp; try omega)).trans (by simp [go_sem])); obtain ⟨p1, p2, p3⟩ := pair_at hg1 HX.out; have s1 : w.heap.size + 1 + 1 < w1.heap.size := (by have := hg2.size; simp at this; omega); have s0 : w.heap.size + 1 < w1.heap.size := (by omega); have s2 : w.heap.size < w1.heap.size := (by omega); have zc := (fun j hh => hg2.cell (p := ⟨w.heap.size + 1 + 1 + 1, j, none⟩) hh); have zf := (fun j hh => hg2.frozen (p := ⟨w.heap.size + 1 + 1 + 1, j, none⟩) hh); simp only at zc zf; have R0 : Hid (w1.heap[w.heap.size]? = some (.cells (ResD.cells {}) 35 (0, 0))) := ((hg2.block w.heap.size (by simp; try omega)).trans (by first | exact (three_blocks w _ _ _).1 | exact (four_blocks w _ _ _ _).1)); have R1 : Hid (w1.heap[w.heap.size + 1]? = some (.cells #[.int .i64 it1, .int .i64 it2, .int .i64 P] 86 (0, 0))) := ((hg2.block (w.heap.size + 1) (by simp; try omega)).trans (by first | exact (three_blocks w _ _ _).2 | exact (four_blocks w _ _ _ _).2.1)); have BW : Hid (Below w.heap.size w w1) := (Below.trans (by repeat (first | exact Below.refl _ _ | refine Below.drew ?_ | refine Below.alloc ?_ (by simp; try omega) _)) (hg2.mono (by simp; try omega))); have zb := (fun hh => hg2.block (w.heap.size + 1 + 1 + 1) hh); have ZB := Lib.hid zb; clear zb; clear hg1 hg2)
    all_goals
      go_wp2_with fail
      go_meet
      first
        | exact mid_new R0.out R1.out BW.out
        | exact mid_old R0.out R1.out BW.out ((ZB.out (by simp)).trans (four_blocks w _ _ _ _).2.2)
  case rest =>
    obtain ⟨g7, rfl, m1, m2, m3, m4, m5⟩ := hcut
    have n0 : wc.cell? ⟨w.heap.size + 1, 0, none⟩ = some (.int .i64 it1) := by rw [blk_cell m4]; rfl
    have n1 : wc.cell? ⟨w.heap.size + 1, 1, none⟩ = some (.int .i64 it2) := by rw [blk_cell m4]; rfl
    have n2 : wc.cell? ⟨w.heap.size + 1, 2, none⟩ = some (.int .i64 P) := by rw [blk_cell m4]; rfl
    have n3 : wc.frozen? ⟨w.heap.size + 1, 2, none⟩ = false := by simp [World.frozen?, m4]
    have hbi : wc.heap[bi]? = w.heap[bi]? := m5.block bi hli
    have hcb : wc.cell? ⟨bf, 2, none⟩ = some (.map (some bi)) := (World.cell?_of_block (m5.block bf hlf)).trans c2
    have hne1 : bf ≠ w.heap.size + 1 := by omega
    have mi : MapIs (wc.setCell ⟨w.heap.size + 1, 2, none⟩ (.int .i64 ((P : Int) + 1))).drew bi (.int .i64) (Value.int .i64) itV F.iters := (HH.out.iters.of_block hbi).setAt (by omega) _
    obtain ⟨ob, hrun, hmi⟩ := mi.update (P := Try.prog) key_int inj_int Try.underlying76 Try.underlying3 n ⟨it1, it2, (P : Int) + 1⟩
    have hT := Turned.mk' (w := (wc.setCell ⟨w.heap.size + 1, 2, none⟩ (.int .i64 ((P : Int) + 1))).drew) bi ob
    simp only [itV] at hrun
    generalize ChangeMaps.setBlock ((wc.setCell ⟨w.heap.size + 1, 2, none⟩ (.int .i64 ((P : Int) + 1))).drew) bi ob = w8 at *
    have q7 : w8.heap[g7]? = some (.cells #[.string x.1, .int .u64 x.2] 45 (0, 0)) := (hT.block g7 (by omega)).trans ((Below.heap_setCell wc _ _ g7 (by show g7 ≠ w.heap.size + 1; omega)).trans m1)
    have q8 : w8.heap[w.heap.size]? = some (.cells (ResD.cells {}) 35 (0, 0)) := (hT.block _ (by omega)).trans ((Below.heap_setCell wc _ _ _ (by show w.heap.size ≠ w.heap.size + 1; omega)).trans m3)
    have y0 : w8.cell? ⟨g7, 0, none⟩ = some (.string x.1) := by rw [blk_cell q7]; rfl
    have y1 : w8.cell? ⟨g7, 1, none⟩ = some (.int .u64 x.2) := by rw [blk_cell q7]; rfl
    have yc : ∀ j : Nat, w8.cell? ⟨w.heap.size, j, none⟩ = (ResD.cells {})[j]? := fun j => blk_cell q8 j
    have yf : ∀ j : Nat, w8.frozen? ⟨w.heap.size, j, none⟩ = false := fun j => by simp [World.frozen?, q8]
    simp only [ResD.cells] at yc
    have FIN := Lib.hid (And.intro hmi (And.intro hT m5))
    clear m1 m3 m4 m5 hbi mi hmi hT q7 q8 c0 c1 c2 hlm OF
    go_wp2_with fail
    go_region
    go_wp2_with fail
    refine bodyPost_ret (v := .agg (nextR F _ _).cells) ?hres rfl ⟨rfl, ?_, ?_⟩
    case hres => rw [X.out]; simp [results, Try.results34, go_sem, ResD.cells, yc]
    · rw [Y.out]
      obtain ⟨hmi, hT, m5⟩ := FIN.out
      refine HH.out.set_iters (fun k hk hne => ?_) ?_
      · iterate 8 (rw [Below.heap_setCell _ _ _ k (by show k ≠ w.heap.size; omega)])
        exact (hT.block k hne).trans ((Below.heap_setCell wc _ _ k (by show k ≠ w.heap.size + 1; omega)).trans (m5.block k hk))
      · iterate 8 (refine MapIs.setAt ?_ (by omega) _)
        exact hmi
    · obtain ⟨hmi, hT, m5⟩ := FIN.out
      iterate 8 (refine Only.setAt ?_ (by omega) _)
      exact (((Only.of_below m5).setAt (by omega) _).drew).turned hT (Or.inl (Or.inr (Or.inr (Or.inl rfl))))
theorem next_any (w : World) (bf bm bi : Nat) (F : FamD) (N : Nat) (hN : N ≤ 1099511627776) (hok : FamOk N F) (h : FamIs w bf bm bi F) (n : Int) (it : IterD) (d : MapD) (hi : alook F.iters n = some it) (hm : alook F.maps it.number = some d) :
    Calls Try.prog 34 #[.pointer (some ⟨bf, 0, none⟩), .int .i64 n] w fun e w' => e = .returned (.agg (nextR F it d).cells) ∧ FamIs w' bf bm bi (nextF F n it d) ∧ Only (F.own bf bm bi) w w' := by
  by_cases hp : (d.vals.length : Int) ≤ it.pos
  · exact next_end w bf bm bi F N hN hok h n it d hi hm hp
  · exact next_step w bf bm bi F N hN hok h n it d hi hm (by omega)
end Go.Proofs.Ytagfghihnkkfiaa
