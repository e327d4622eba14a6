/- The walks of package model, eighth part: next. The walks of package model, ninth part: next moves on; how a change of one part leaves the family. The walks of package model: Apply, next. Printed by mkapply.py. -/
import Derived.Test.YtbmoehndnbbhcaaGreatDoorMModH
import Derived.Deep.DeepCutAuto
import Derived.Test.YtbmoehndnbbhcaaGreatDoorMApB
namespace Go.Proofs.YtbmoehndnbbhcaaGreatDoor
set_option linter.unusedVariables false
set_option linter.unusedSimpArgs false
open Go.RowKit Go.MapKept
theorem pair_at {w : World} {base g n P : Nat} {l : List (ByteArray × Int)} {x : ByteArray × Int} (h : w.ownsRow base 122 2 (.slice (some ⟨g, 0, none⟩) n n) n (l.flatMap pairV)) (hx : l[P]? = some x) :
    w.cell? ⟨g, P * 2, none⟩ = some (.string x.1) ∧ w.cell? ⟨g, P * 2 + 1, none⟩ = some (.int .u64 x.2) ∧ g < w.heap.size := by
  have hc := h.cells (g := g) rfl
  have f0 := flat_at pairV 2 (fun _ => rfl) l P 0 _ hx (by omega)
  have f1 := flat_at pairV 2 (fun _ => rfl) l P 1 _ hx (by omega)
  have d0 := hc _ _ f0
  have d1 := hc _ _ f1
  rw [addr_at] at d0 d1
  refine ⟨d0, d1, ?_⟩
  rcases h.2 with ⟨h1, _⟩ | ⟨g', cap, cur, h1, _, h2, _⟩
  · simp at h1
  · simp at h1
    have := (Array.getElem?_eq_some_iff.1 h2).1
    omega
def nextR (F : FamD) (it : IterD) (d : MapD) : ResD :=
  if (d.vals.length : Int) ≤ it.pos then {} else { found := true, key := ((sortedOf F.mask d.vals)[it.pos.toNat]?.getD (⟨#[]⟩, 0)).1, value := ((sortedOf F.mask d.vals)[it.pos.toNat]?.getD (⟨#[]⟩, 0)).2 }
def nextF (F : FamD) (n : Int) (it : IterD) (d : MapD) : FamD :=
  if (d.vals.length : Int) ≤ it.pos then F else { F with iters := aset F.iters n { it with pos := it.pos + 1 } }
set_option maxRecDepth 100000 in
set_option maxHeartbeats 1000000 in
theorem next_end (w : World) (bf bm bi : Nat) (F : FamD) (N : Nat) (hN : N ≤ 1099511627776) (hok : FamOk N F) (h : FamIs w bf bm bi F) (n : Int) (it : IterD) (d : MapD) (hi : alook F.iters n = some it) (hm : alook F.maps it.number = some d) (hp : (d.vals.length : Int) ≤ it.pos) :
    Calls Tryz.prog 45 #[.pointer (some ⟨bf, 0, none⟩), .int .i64 n] w fun e w' => e = .returned (.agg (nextR F it d).cells) ∧ FamIs w' bf bm bi (nextF F n it d) ∧ Only (F.own bf bm bi) w w' := by
  have X := Lib.hid (show nextR F it d = {} from if_pos hp)
  have Y := Lib.hid (show nextF F n it d = F from if_pos hp)
  have hlf := h.lt (k := bf) (Or.inl rfl)
  have hlm := h.lt (k := bm) (Or.inr (Or.inl rfl))
  have hli := h.lt (k := bi) (Or.inr (Or.inr (Or.inl rfl)))
  have hmem := alook_mem hm
  have hlr := (h.vals _ hmem).lt
  obtain ⟨c0, c1, c2⟩ := h.cell
  have hl1 := h.look_iters n false
  have hl2 := h.look_maps it.number false
  rw [hi] at hl1
  rw [hm] at hl2
  have hln := fun (W : World) (hW : W.heap[d.ref]? = w.heap[d.ref]?) ty => MapIs.len (P := Tryz.prog) Tryz.underlying97 ((h.vals _ hmem).of_block hW) ty
  have HH := Lib.hid h
  simp only [if_false, Bool.false_eq_true, outOf, itV, mapV] at hl1 hl2
  obtain ⟨a1, a2, a3⟩ := blocks_alloc hlm
  obtain ⟨b1, b2, b3⟩ := blocks_alloc hli
  obtain ⟨e1, e2, e3⟩ := blocks_alloc hlr
  obtain ⟨k2, k3⟩ := cells_alloc hlf
  have hd := drew_heap
  obtain ⟨it1, it2, it3⟩ := it
  obtain ⟨r, L, ro⟩ := d
  simp only at *
  clear h hi hm hmem hok
  go_enter Tryz.func45, Tryz.ntmps45
  go_wp2_with fail
  go_region
  go_wp2_with fail
  refine bodyPost_ret (v := .agg (nextR F _ _).cells) ?hres rfl ⟨rfl, ?_, ?_⟩
  case hres => rw [X.out]; simp [results, Tryz.results45, go_sem, ResD.cells]
  · rw [Y.out]
    refine HH.out.below ?_
    exact ((((Below.refl _ _).alloc (Nat.le_refl _) _).alloc (by simp) _).alloc (by simp; omega) _).drew
  · exact (((((Only.refl _ _).alloc _).alloc _).alloc _)).drew
end Go.Proofs.YtbmoehndnbbhcaaGreatDoor
namespace Go.Proofs.YtbmoehndnbbhcaaGreatDoor
set_option linter.unusedVariables false
set_option linter.unusedSimpArgs false
open Go.RowKit Go.MapKept
/-- what lies there when the pair has been read -/
def NextMid (w : World) (it1 it2 : Int) (P : Nat) (x : ByteArray × Int) (s7 : Value) (wx : World) : Prop :=
  ∃ g7, s7 = .pointer (some ⟨g7, 0, none⟩) ∧ wx.heap[g7]? = some (.cells #[.string x.1, .int .u64 x.2] 122 (0, 0)) ∧ w.heap.size + 1 < g7 ∧
    wx.heap[w.heap.size]? = some (.cells (ResD.cells {}) 45 (0, 0)) ∧ wx.heap[w.heap.size + 1]? = some (.cells #[.int .i64 it1, .int .i64 it2, .int .i64 P] 109 (0, 0)) ∧ Below w.heap.size w wx
theorem mid_new {w w1 : World} {it1 it2 : Int} {P : Nat} {x : ByteArray × Int} (r0 : w1.heap[w.heap.size]? = some (.cells (ResD.cells {}) 45 (0, 0))) (r1 : w1.heap[w.heap.size + 1]? = some (.cells #[.int .i64 it1, .int .i64 it2, .int .i64 P] 109 (0, 0))) (bw : Below w.heap.size w w1) :
    NextMid w it1 it2 P x (.pointer (some ⟨w1.heap.size, 0, none⟩)) (w1.alloc (.cells #[.string x.1, .int .u64 x.2] 122)) := by
  have hs : w.heap.size + 1 < w1.heap.size := (Array.getElem?_eq_some_iff.1 r1).1
  exact ⟨w1.heap.size, rfl, (heap_alloc w1 _).1, hs, (alloc_old w1 _ _ (by omega)).trans r0, (alloc_old w1 _ _ (by omega)).trans r1, bw.alloc (by omega) _⟩
theorem mid_old {w w1 : World} {it1 it2 : Int} {P : Nat} {x : ByteArray × Int} {a b : Value} (r0 : w1.heap[w.heap.size]? = some (.cells (ResD.cells {}) 45 (0, 0))) (r1 : w1.heap[w.heap.size + 1]? = some (.cells #[.int .i64 it1, .int .i64 it2, .int .i64 P] 109 (0, 0))) (bw : Below w.heap.size w w1)
    (r3 : w1.heap[w.heap.size + 1 + 1 + 1]? = some (.cells #[a, b] 122 (0, 0))) :
    NextMid w it1 it2 P x (.pointer (some ⟨w.heap.size + 1 + 1 + 1, 0, none⟩)) ((w1.setCell ⟨w.heap.size + 1 + 1 + 1, 0, none⟩ (.string x.1)).setCell ⟨w.heap.size + 1 + 1 + 1, 1, none⟩ (.int .u64 x.2)) := by
  refine ⟨_, rfl, ?_, by omega, ?_, ?_, (bw.setCell (by show w.heap.size ≤ w.heap.size + 1 + 1 + 1; omega) _).setCell (by show w.heap.size ≤ w.heap.size + 1 + 1 + 1; omega) _⟩
  · exact blk_set (blk_set r3 0 _) 1 _
  · rw [Below.heap_setCell _ _ _ _ (by show w.heap.size ≠ w.heap.size + 1 + 1 + 1; omega), Below.heap_setCell _ _ _ _ (by show w.heap.size ≠ w.heap.size + 1 + 1 + 1; omega)]; exact r0
  · rw [Below.heap_setCell _ _ _ _ (by show w.heap.size + 1 ≠ w.heap.size + 1 + 1 + 1; omega), Below.heap_setCell _ _ _ _ (by show w.heap.size + 1 ≠ w.heap.size + 1 + 1 + 1; omega)]; exact r1
set_option maxRecDepth 100000 in
set_option maxHeartbeats 4000000 in
theorem next_step (w : World) (bf bm bi : Nat) (F : FamD) (N : Nat) (hN : N ≤ 1099511627776) (hok : FamOk N F) (h : FamIs w bf bm bi F) (n : Int) (it : IterD) (d : MapD) (hi : alook F.iters n = some it) (hm : alook F.maps it.number = some d) (hp : it.pos < (d.vals.length : Int)) :
    Calls Tryz.prog 45 #[.pointer (some ⟨bf, 0, none⟩), .int .i64 n] w fun e w' => e = .returned (.agg (nextR F it d).cells) ∧ FamIs w' bf bm bi (nextF F n it d) ∧ Only (F.own bf bm bi) w w' := by
  have hpos := hok.poss _ (alook_mem hi)
  have hlf := h.lt (k := bf) (Or.inl rfl)
  have hlm := h.lt (k := bm) (Or.inr (Or.inl rfl))
  have hli := h.lt (k := bi) (Or.inr (Or.inr (Or.inl rfl)))
  have hmem := alook_mem hm
  have hlr := (h.vals _ hmem).lt
  obtain ⟨c0, c1, c2⟩ := h.cell
  have hl1 := h.look_iters n false
  have hl2 := h.look_maps it.number false
  rw [hi] at hl1
  rw [hm] at hl2
  have hln := fun (W : World) (hW : W.heap[d.ref]? = w.heap[d.ref]?) ty => MapIs.len (P := Tryz.prog) Tryz.underlying97 ((h.vals _ hmem).of_block hW) ty
  have HH := Lib.hid h
  have OF := Lib.hid (fun W (hW : FamIs W bf bm bi F) => ordered_fam W bf bm bi F N hN hok hW it.number d hm)
  simp only [if_false, Bool.false_eq_true, outOf, itV, mapV] at hl1 hl2 OF
  obtain ⟨a1, a2, a3⟩ := blocks_alloc hlm
  obtain ⟨b1, b2, b3⟩ := blocks_alloc hli
  obtain ⟨e1, e2, e3⟩ := blocks_alloc hlr
  obtain ⟨k2, k3⟩ := cells_alloc hlf
  have hd := drew_heap
  obtain ⟨it1, it2, it3⟩ := it
  obtain ⟨r, L, ro⟩ := d
  simp only at *
  clear h hi hm hmem hok
  obtain ⟨P, rfl⟩ := Int.eq_ofNat_of_zero_le hpos.1
  have hPL : P < L.length := by omega
  obtain ⟨x, hx⟩ : ∃ x, (sortedOf F.mask L)[P]? = some x := ⟨_, List.getElem?_eq_getElem (by rw [sortedOf_length]; exact hPL)⟩
  have X := Lib.hid (show nextR F ⟨it1, it2, (P : Int)⟩ ⟨r, L, ro⟩ = { found := true, key := x.1, value := x.2 } by
    unfold nextR
    rw [if_neg (by show ¬ (L.length : Int) ≤ (P : Int); omega)]
    simp only [Int.toNat_natCast]
    rw [hx]
    rfl)
  have Y := Lib.hid (show nextF F n ⟨it1, it2, (P : Int)⟩ ⟨r, L, ro⟩ = { F with iters := aset F.iters n ⟨it1, it2, (P : Int) + 1⟩ } from if_neg (by show ¬ (L.length : Int) ≤ (P : Int); omega))
  have HX := Lib.hid hx
  clear hx
  go_enter Tryz.func45, Tryz.ntmps45
  go_wp2_with fail
  go_region
  go_upto_region 5 with fail
  go_cut [7] (fun s7 wx => NextMid w it1 it2 P x s7 wx)
  case first =>
    go_region_with (go_at_call 64; refine (OF.out _ (HH.out.below ?hb)).mono ?_; (case hb => repeat (first | exact Below.refl _ _ | refine Below.drew ?_ | refine Below.alloc ?_ (by simp; try omega) _)); rintro e w1 ⟨v, rfl, g, rfl, hg1, hg2⟩; have q0 : w1.cell? ⟨w.heap.size + 1, 0, none⟩ = some (.int .i64 it1) := ((hg2.cell (p := ⟨w.heap.size + 1, 0, none⟩) (by simp; try omega)).trans (by simp [go_sem])); have q1 : w1.cell? ⟨w.heap.size + 1, 1, none⟩ = some (.int .i64 it2) := ((hg2.cell (p := ⟨w.heap.size + 1, 1, none⟩) (by simp; try omega)).trans (by simp [go_sem])); have q2 : w1.cell? ⟨w.heap.size + 1, 2, none⟩ = some (.int .i64 (P : Int)) := ((hg2.cell (p := ⟨w.heap.size + 1, 2, none⟩) (by simp; try omega)).trans (by simp [go_sem])); obtain ⟨p1, p2, p3⟩ := pair_at hg1 HX.out; have s1 : w.heap.size + 1 + 1 < w1.heap.size := (by have := hg2.size; simp at this; omega); have s0 : w.heap.size + 1 < w1.heap.size := (by omega); have s2 : w.heap.size < w1.heap.size := (by omega); have zc := (fun j hh => hg2.cell (p := ⟨w.heap.size + 1 + 1 + 1, j, none⟩) hh); have zf := (fun j hh => hg2.frozen (p := ⟨w.heap.size + 1 + 1 + 1, j, none⟩) hh); simp only at zc zf; have R0 : Hid (w1.heap[w.heap.size]? = some (.cells (ResD.cells {}) 45 (0, 0))) := ((hg2.block w.heap.size (by simp; try omega)).trans (by first | exact (three_blocks w _ _ _).1 | exact (four_blocks w _ _ _ _).1)); have R1 : Hid (w1.heap[w.heap.size + 1]? = some (.cells #[.int .i64 it1, .int .i64 it2, .int .i64 P] 109 (0, 0))) := ((hg2.block (w.heap.size + 1) (by simp; try omega)).trans (by first | exact (three_blocks w _ _ _).2 | exact (four_blocks w _ _ _ _).2.1)); have BW : Hid (Below w.heap.size w w1) := (Below.trans (by repeat (first | exact Below.refl _ _ | refine Below.drew ?_ | refine Below.alloc ?_ (by simp; try omega) _)) (hg2.mono (by simp; try omega))); have zb := (fun hh => hg2.block (w.heap.size + 1 + 1 + 1) hh); have ZB := Lib.hid zb; clear zb; clear hg1 hg2)
    all_goals
      go_wp2_with fail
      go_meet
      first
        | exact mid_new R0.out R1.out BW.out
        | exact mid_old R0.out R1.out BW.out ((ZB.out (by simp)).trans (four_blocks w _ _ _ _).2.2)
  case rest =>
    obtain ⟨g7, rfl, m1, m2, m3, m4, m5⟩ := hcut
    have n0 : wc.cell? ⟨w.heap.size + 1, 0, none⟩ = some (.int .i64 it1) := by rw [blk_cell m4]; rfl
    have n1 : wc.cell? ⟨w.heap.size + 1, 1, none⟩ = some (.int .i64 it2) := by rw [blk_cell m4]; rfl
    have n2 : wc.cell? ⟨w.heap.size + 1, 2, none⟩ = some (.int .i64 P) := by rw [blk_cell m4]; rfl
    have n3 : wc.frozen? ⟨w.heap.size + 1, 2, none⟩ = false := by simp [World.frozen?, m4]
    have hbi : wc.heap[bi]? = w.heap[bi]? := m5.block bi hli
    have hcb : wc.cell? ⟨bf, 2, none⟩ = some (.map (some bi)) := (World.cell?_of_block (m5.block bf hlf)).trans c2
    have hne1 : bf ≠ w.heap.size + 1 := by omega
    have mi : MapIs (wc.setCell ⟨w.heap.size + 1, 2, none⟩ (.int .i64 ((P : Int) + 1))).drew bi (.int .i64) (Value.int .i64) itV F.iters := (HH.out.iters.of_block hbi).setAt (by omega) _
    obtain ⟨ob, hrun, hmi⟩ := mi.update (P := Tryz.prog) key_int inj_int Tryz.underlying101 Tryz.underlying3 n ⟨it1, it2, (P : Int) + 1⟩
    have hT := Turned.mk' (w := (wc.setCell ⟨w.heap.size + 1, 2, none⟩ (.int .i64 ((P : Int) + 1))).drew) bi ob
    simp only [itV] at hrun
    generalize ChangeMaps.setBlock ((wc.setCell ⟨w.heap.size + 1, 2, none⟩ (.int .i64 ((P : Int) + 1))).drew) bi ob = w8 at *
    have q7 : w8.heap[g7]? = some (.cells #[.string x.1, .int .u64 x.2] 122 (0, 0)) := (hT.block g7 (by omega)).trans ((Below.heap_setCell wc _ _ g7 (by show g7 ≠ w.heap.size + 1; omega)).trans m1)
    have q8 : w8.heap[w.heap.size]? = some (.cells (ResD.cells {}) 45 (0, 0)) := (hT.block _ (by omega)).trans ((Below.heap_setCell wc _ _ _ (by show w.heap.size ≠ w.heap.size + 1; omega)).trans m3)
    have y0 : w8.cell? ⟨g7, 0, none⟩ = some (.string x.1) := by rw [blk_cell q7]; rfl
    have y1 : w8.cell? ⟨g7, 1, none⟩ = some (.int .u64 x.2) := by rw [blk_cell q7]; rfl
    have yc : ∀ j : Nat, w8.cell? ⟨w.heap.size, j, none⟩ = (ResD.cells {})[j]? := fun j => blk_cell q8 j
    have yf : ∀ j : Nat, w8.frozen? ⟨w.heap.size, j, none⟩ = false := fun j => by simp [World.frozen?, q8]
    simp only [ResD.cells] at yc
    have FIN := Lib.hid (And.intro hmi (And.intro hT m5))
    clear m1 m3 m4 m5 hbi mi hmi hT q7 q8 c0 c1 c2 hlm OF
    go_wp2_with fail
    go_region
    go_wp2_with fail
    refine bodyPost_ret (v := .agg (nextR F _ _).cells) ?hres rfl ⟨rfl, ?_, ?_⟩
    case hres => rw [X.out]; simp [results, Tryz.results45, go_sem, ResD.cells, yc]
    · rw [Y.out]
      obtain ⟨hmi, hT, m5⟩ := FIN.out
      refine HH.out.set_iters (fun k hk hne => ?_) ?_
      · iterate 8 (rw [Below.heap_setCell _ _ _ k (by show k ≠ w.heap.size; omega)])
        exact (hT.block k hne).trans ((Below.heap_setCell wc _ _ k (by show k ≠ w.heap.size + 1; omega)).trans (m5.block k hk))
      · iterate 8 (refine MapIs.setAt ?_ (by omega) _)
        exact hmi
    · obtain ⟨hmi, hT, m5⟩ := FIN.out
      iterate 8 (refine Only.setAt ?_ (by omega) _)
      exact (((Only.of_below m5).setAt (by omega) _).drew).turned hT (Or.inl (Or.inr (Or.inr (Or.inl rfl))))
theorem next_any (w : World) (bf bm bi : Nat) (F : FamD) (N : Nat) (hN : N ≤ 1099511627776) (hok : FamOk N F) (h : FamIs w bf bm bi F) (n : Int) (it : IterD) (d : MapD) (hi : alook F.iters n = some it) (hm : alook F.maps it.number = some d) :
    Calls Tryz.prog 45 #[.pointer (some ⟨bf, 0, none⟩), .int .i64 n] w fun e w' => e = .returned (.agg (nextR F it d).cells) ∧ FamIs w' bf bm bi (nextF F n it d) ∧ Only (F.own bf bm bi) w w' := by
  by_cases hp : (d.vals.length : Int) ≤ it.pos
  · exact next_end w bf bm bi F N hN hok h n it d hi hm hp
  · exact next_step w bf bm bi F N hN hok h n it d hi hm (by omega)
end Go.Proofs.YtbmoehndnbbhcaaGreatDoor
namespace Go.Proofs.YtbmoehndnbbhcaaGreatDoor
set_option linter.unusedVariables false
set_option linter.unusedSimpArgs false
open Go.RowKit Go.MapKept
theorem nextF_own {F : FamD} {n : Int} {it : IterD} {d : MapD} {bf bm bi k : Nat} (h : (nextF F n it d).own bf bm bi k) : F.own bf bm bi k := by
  unfold nextF at h
  split at h <;> exact h
set_option maxRecDepth 100000 in
set_option maxHeartbeats 2000000 in
theorem apply_next (w : World) (bf bm bi : Nat) (F : FamD) (N : Nat) (hN : N ≤ 1099511627776) (hok : FamOk N F) (t i : Int) (o : OpD) (h : FamIs w bf bm bi F) (hk : o.key.size ≤ maxLen) (hz : refusalD F t i o = 0) (it : IterD) (hi : alook F.iters o.handle = some it) (d : MapD) (hm : alook F.maps it.number = some d) (hkd : o.kind = 13) :
    Calls Tryz.prog 21 #[.pointer (some ⟨bf, 0, none⟩), .int .i64 t, .int .i64 i, o.val] w fun e w' => e = .returned (.agg (nextR F it d).cells) ∧ FamIs w' bf bm bi (nextF F o.handle it d) ∧ Only (F.own bf bm bi) w w' := by
  obtain ⟨kind, handle, key, value, expect⟩ := o
  simp only [OpD.val] at *
  obtain ⟨x, y, hl, hxy⟩ := h.look_some handle
  have hlf := h.lt (k := bf) (Or.inl rfl)
  have hlm := h.lt (k := bm) (Or.inr (Or.inl rfl))
  have hli := h.lt (k := bi) (Or.inr (Or.inr (Or.inl rfl)))
  obtain ⟨c0, c1, c2⟩ := h.cell
  have HH := Lib.hid h
  have HZ := Lib.hid hz
  have HM := Lib.hid hm
  have hd := drew_heap
  have HK := Lib.hid hkd
  have HI := Lib.hid hi
  clear h hz hm hxy hi hkd
  go_enter Tryz.func21, Tryz.ntmps21
  go_upto_region 5 with (first | (go_at_call 41; (refine (refusal_zero _ bf bm bi F t i ⟨kind, handle, key, value, expect⟩ (HH.out.below ?hb) hk HZ.out).mono ?_); (case hb => exact ((Below.refl _ _).alloc (Nat.le_refl _) _).alloc (by simp) _); rintro e w1 ⟨rfl, hg⟩; (have R0 : w1.heap[w.heap.size]? = some (.cells (opC ⟨kind, handle, key, value, expect⟩) 60 (0, 0)) := (hg.block w.heap.size (by simp <;> omega)).trans (two_blocks w _ _).1); (have R1 : w1.heap[w.heap.size + 1]? = some (.cells (ResD.cells {}) 45 (0, 0)) := (hg.block (w.heap.size + 1) (by simp <;> omega)).trans (two_blocks w _ _).2); (have BW : Below w.heap.size w w1 := (((Below.refl _ _).alloc (Nat.le_refl _) _).alloc (by simp) _).trans (hg.mono (by simp <;> omega))); (have u0 : ∀ j : Nat, w1.cell? ⟨w.heap.size, j, none⟩ = (opC ⟨kind, handle, key, value, expect⟩)[j]? := fun j => blk_cell R0 j); simp only [opC] at u0; (have u1 : w1.heap[bm]? = w.heap[bm]? := BW.block bm hlm); (have u2 : ∀ j : Nat, w1.cell? ⟨bf, j, none⟩ = w.cell? ⟨bf, j, none⟩ := fun j => World.cell?_of_block (BW.block bf hlf)); (have u3 : w.heap.size < w1.heap.size := by (have := (Array.getElem?_eq_some_iff.1 R1).1; omega)); (have u4 := blocks_alloc (w := w1) (b := bm) (by omega)); (have v0 : bf < w1.heap.size := by omega); obtain ⟨u5, u6, u7⟩ := u4; have R0 := Lib.hid R0; have R1 := Lib.hid R1; have BW := Lib.hid BW; clear hg) | (go_at_call 36; refine (number_any _ _ _).mono ?_; rintro e w' ⟨rfl, rfl⟩))
  go_cut [11] (fun s11 wx => ApMid w ⟨kind, handle, key, value, expect⟩ x y s11 wx)
  case first =>
    go_region
    go_wp2_with fail
    go_meet
    exact apmid R0.out R1.out BW.out
  case rest =>
    obtain ⟨g, rfl, m1, m2, m3, m4, m5⟩ := hcut
    have n0 : ∀ j : Nat, wc.cell? ⟨w.heap.size, j, none⟩ = (opC ⟨kind, handle, key, value, expect⟩)[j]? := fun j => blk_cell m3 j
    simp only [opC] at n0
    have M4 := Lib.hid m4
    have M5 := Lib.hid m5
    have HO := Lib.hid hok
    clear m1 m3 m4 m5 c0 c1 c2 hl hok
    have hkd := HK.out
    clear HK
    subst hkd
    go_wp2_with (go_at_call 45; (refine (next_any _ bf bm bi F N hN HO.out (HH.out.below M5.out) handle it d HI.out HM.out).mono ?_); rintro e w2 ⟨rfl, hv2, ho2⟩; (have S1 : w2.heap[w.heap.size + 1]? = some (.cells (ResD.cells {}) 45 (0, 0)) := (ho2.block _ (Array.getElem?_eq_some_iff.1 M4.out).1 (fun hh => by (have := HH.out.lt hh; omega))).trans M4.out); (have q0 : ∀ j : Nat, w2.cell? ⟨w.heap.size + 1, j, none⟩ = (ResD.cells {})[j]? := fun j => blk_cell S1 j); (have q1 : ∀ j : Nat, w2.frozen? ⟨w.heap.size + 1, j, none⟩ = false := fun j => by simp [World.frozen?, S1]); simp only [ResD.cells] at q0 ⊢; have V2 := Lib.hid hv2; have O2 := Lib.hid ho2; clear hv2 ho2 S1)
    refine bodyPost_ret (v := .agg (nextR F it d).cells) ?hres rfl ⟨rfl, ?_, ?_⟩
    case hres => simp [results, Tryz.results21, go_sem, ResD.cells, q0]
    · refine V2.out.keep fun k hk => ?_
      have hkl : k < w.heap.size := HH.out.lt (nextF_own hk)
      iterate 8 (rw [Below.heap_setCell _ _ _ k (by show k ≠ w.heap.size + 1; omega)])
    · iterate 8 (refine Only.setAt ?_ (by omega) _)
      exact (Only.of_below M5.out).trans O2.out (fun i hi => Or.inl hi)
end Go.Proofs.YtbmoehndnbbhcaaGreatDoor
