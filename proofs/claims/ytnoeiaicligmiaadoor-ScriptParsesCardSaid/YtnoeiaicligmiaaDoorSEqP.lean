/- The walk of the program's Equal. -/
import Derived.Test.YtnoeiaicligmiaaDoorSEqL
namespace Go.Proofs.YtnoeiaicligmiaaDoor
set_option linter.unusedVariables false
set_option linter.unusedSimpArgs false
open Go Go.RowKit
theorem PicksAt.boxed {w wr : World} {o1 o2 : Obj} (hb : Boxed w o1 o2 wr) {A : Option Addr} {ps : List Int} (h : PicksAt w A ps) : PicksAt wr A ps := h.keep hb.below.size hb.below.block
set_option maxRecDepth 100000 in
set_option maxHeartbeats 2000000 in
theorem equal_same (w : World) (A D A' D' : Option Addr) (c d c' d' : Nat) (s : ScrD) (h : ScrAt w A D s) (h' : ScrAt w A' D' s) :
    Calls Tryd.prog 22 #[scrV s.mask A s.threads.length c D s.picks.length d, scrV s.mask A' s.threads.length c' D' s.picks.length d'] w fun e w' => e = .returned (.bool true) ∧ Below w.heap.size w w' := by
  obtain ⟨m, ts, ps⟩ := s
  have hl0 := h.l0
  have hl1 := h.l1
  have L2 := Lib.hid h.l2
  have HT := Lib.hid h.thr
  have HT' := Lib.hid h'.thr
  have HP := Lib.hid h.pks
  have HP' := Lib.hid h'.pks
  simp only [scrV] at *
  clear h h'
  go_enter Tryd.func22, Tryd.ntmps22
  go_wp2_with fail
  have b0 : Boxed w (boxS m A ts.length c D ps.length d) (boxS m A' ts.length c' D' ps.length d') ((w.alloc (boxS m A ts.length c D ps.length d)).alloc (boxS m A' ts.length c' D' ps.length d')) := FewDraws.refl _
  refine (sints_same _ D D' d d' ps (HP.out.boxed b0) (HP'.out.boxed b0) hl1).mono ?_
  rintro e w1 ⟨rfl, hf1⟩
  have hb1 : Boxed w (boxS m A ts.length c D ps.length d) (boxS m A' ts.length c' D' ps.length d') w1 := hf1
  have x1 := blk_cell hb1.one
  have x2 := blk_cell hb1.two
  have HF := Lib.hid hb1
  clear b0 hf1 hb1
  go_wp2_with fail
  go_loopw [32] (fun i wr => EqL2 w (boxS m A ts.length c D ps.length d) (boxS m A' ts.length c' D' ps.length d') ts ts i wr) (fun i _ => ts.length - (intOf i).toNat)
  case atStart => exact ⟨0, by omega, rfl, fun j hj => rfl, HF.out⟩
  case round =>
    clear x1 x2
    obtain ⟨k2, hk2, rfl, hall, hf⟩ := hrel
    have x1 := blk_cell hf.one
    have x2 := blk_cell hf.two
    clear HF
    have HF := Lib.hid hf
    clear hall hf
    by_cases hlt2 : k2 < ts.length
    · obtain ⟨t, ht⟩ : ∃ t, ts[k2]? = some t := ⟨_, List.getElem?_eq_getElem hlt2⟩
      obtain ⟨b1, o1, u1, e1, rfl, c0, c1⟩ := thr_cell2 HT.out HF.out.below.size HF.out.below.block ht
      obtain ⟨b2, o2, u2, e2, rfl, d0, d1⟩ := thr_cell2 HT'.out HF.out.below.size HF.out.below.block ht
      have lt := L2.out t (List.mem_of_getElem? ht)
      have C1 := Lib.hid c1
      have D1 := Lib.hid d1
      clear ht c1 d1
      go_wp2_with fail
      refine (sops_same _ u1 u2 e1 e2 t C1.out D1.out lt).mono ?_
      rintro e w2 ⟨rfl, hf2⟩
      have H2 : Hid (Boxed w (boxS m (some ⟨b1, o1, none⟩) ts.length c D ps.length d) (boxS m (some ⟨b2, o2, none⟩) ts.length c' D' ps.length d') w2) := by
        obtain ⟨n2, rfl⟩ := hf2
        exact FewDraws.drewN HF.out n2
      clear hf2
      go_wp2_with fail
      go_roundw
      case rel => exact ⟨k2 + 1, by omega, by go_num, fun j hj => rfl, H2.out⟩
      case measure => simp [intOf]; omega
    · go_wp2_with fail
      go_ret
      exact ⟨rfl, HF.out.below⟩
end Go.Proofs.YtnoeiaicligmiaaDoor
