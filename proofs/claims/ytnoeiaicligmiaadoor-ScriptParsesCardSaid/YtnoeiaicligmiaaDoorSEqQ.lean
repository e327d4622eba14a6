/- The walk of the program's Equal at two scripts that differ. -/
import Derived.Test.YtnoeiaicligmiaaDoorSEqP
namespace Go.Proofs.YtnoeiaicligmiaaDoor
set_option linter.unusedVariables false
set_option linter.unusedSimpArgs false
open Go Go.RowKit
set_option maxHeartbeats 2000000 in
theorem equal_sizes (w : World) (A D A' D' : Option Addr) (c d c' d' : Nat) (s s' : ScrD) (h : ScrAt w A D s) (h' : ScrAt w A' D' s') (hne : s.mask ≠ s'.mask ∨ (s.mask = s'.mask ∧ s.threads.length ≠ s'.threads.length)) :
    Calls Tryd.prog 22 #[scrV s.mask A s.threads.length c D s.picks.length d, scrV s'.mask A' s'.threads.length c' D' s'.picks.length d'] w fun e w' => e = .returned (.bool false) ∧ Below w.heap.size w w' := by
  obtain ⟨m, ts, ps⟩ := s
  obtain ⟨m', ts', ps'⟩ := s'
  have hl0 := h'.l0
  have hl1 := h'.l1
  have hl2 := h.l0
  have hl3 := h.l1
  simp only [scrV] at *
  clear h h'
  rcases hne with hx | ⟨rfl, hx⟩
  · have y1 : (m == m') = false := by simpa using hx
    have y2 : (m != m') = true := by simpa using hx
    clear hx
    go_enter Tryd.func22, Tryd.ntmps22
    go_wp2_with fail
    go_ret
    exact ⟨rfl, ((Below.refl _ _).alloc (Nat.le_refl _) _).alloc (by simp) _⟩
  · have y2 : ((ts.length : Int) != (ts'.length : Int)) = true := by simp; omega
    have y1 : ((ts.length : Int) == (ts'.length : Int)) = false := by simp; omega
    go_enter Tryd.func22, Tryd.ntmps22
    go_wp2_with fail
    go_ret
    exact ⟨rfl, ((Below.refl _ _).alloc (Nat.le_refl _) _).alloc (by simp) _⟩
set_option maxHeartbeats 2000000 in
theorem equal_picks (w : World) (A D A' D' : Option Addr) (c d c' d' : Nat) (s s' : ScrD) (h : ScrAt w A D s) (h' : ScrAt w A' D' s') (hm : s.mask = s'.mask) (ht0 : s.threads.length = s'.threads.length) (hne : s.picks ≠ s'.picks) :
    Calls Tryd.prog 22 #[scrV s.mask A s.threads.length c D s.picks.length d, scrV s'.mask A' s'.threads.length c' D' s'.picks.length d'] w fun e w' => e = .returned (.bool false) ∧ Below w.heap.size w w' := by
  obtain ⟨m, ts, ps⟩ := s
  obtain ⟨m', ts', ps'⟩ := s'
  have hl0 := h'.l0
  have hl1 := h'.l1
  have hl2 := h.l0
  have hl3 := h.l1
  have HP := Lib.hid h.pks
  have HP' := Lib.hid h'.pks
  simp only [scrV] at *
  subst hm
  rw [ht0]
  have HN := Lib.hid hne
  clear h h' ht0 hne
  go_enter Tryd.func22, Tryd.ntmps22
  go_wp2_with fail
  have b0 : Boxed w (boxS m A ts'.length c D ps.length d) (boxS m A' ts'.length c' D' ps'.length d') ((w.alloc (boxS m A ts'.length c D ps.length d)).alloc (boxS m A' ts'.length c' D' ps'.length d')) := FewDraws.refl _
  refine (sints_diff _ D D' d d' ps ps' (HP.out.boxed b0) (HP'.out.boxed b0) hl3 hl1 HN.out).mono ?_
  rintro e w1 ⟨rfl, hf1⟩
  have hb1 : Boxed w (boxS m A ts'.length c D ps.length d) (boxS m A' ts'.length c' D' ps'.length d') w1 := hf1
  have HF := Lib.hid hb1
  clear b0 hf1 hb1
  go_wp2_with fail
  go_ret
  exact ⟨rfl, HF.out.below⟩
set_option maxRecDepth 100000 in
set_option maxHeartbeats 2000000 in
theorem equal_threads (w : World) (A D A' D' : Option Addr) (c d c' d' : Nat) (s s' : ScrD) (h : ScrAt w A D s) (h' : ScrAt w A' D' s') (hm : s.mask = s'.mask) (ht0 : s.threads.length = s'.threads.length) (hp0 : s.picks = s'.picks) (hne : s.threads ≠ s'.threads) :
    Calls Tryd.prog 22 #[scrV s.mask A s.threads.length c D s.picks.length d, scrV s'.mask A' s'.threads.length c' D' s'.picks.length d'] w fun e w' => e = .returned (.bool false) ∧ Below w.heap.size w w' := by
  obtain ⟨m, ts, ps⟩ := s
  obtain ⟨m', ts', ps'⟩ := s'
  have hl0 := h'.l0
  have hl1 := h'.l1
  have L2 := Lib.hid h.l2
  have L2' := Lib.hid h'.l2
  have HT := Lib.hid h.thr
  have HT' := Lib.hid h'.thr
  have HP := Lib.hid h.pks
  have HP' := Lib.hid h'.pks
  simp only [scrV] at *
  subst hm
  subst hp0
  have HL := Lib.hid ht0
  have HN := Lib.hid hne
  rw [ht0]
  clear h h' hne ht0
  go_enter Tryd.func22, Tryd.ntmps22
  go_wp2_with fail
  have b0 : Boxed w (boxS m A ts'.length c D ps.length d) (boxS m A' ts'.length c' D' ps.length d') ((w.alloc (boxS m A ts'.length c D ps.length d)).alloc (boxS m A' ts'.length c' D' ps.length d')) := FewDraws.refl _
  refine (sints_same _ D D' d d' ps (HP.out.boxed b0) (HP'.out.boxed b0) hl1).mono ?_
  rintro e w1 ⟨rfl, hf1⟩
  have hb1 : Boxed w (boxS m A ts'.length c D ps.length d) (boxS m A' ts'.length c' D' ps.length d') w1 := hf1
  have x1 := blk_cell hb1.one
  have x2 := blk_cell hb1.two
  have HF := Lib.hid hb1
  clear b0 hf1 hb1
  go_wp2_with fail
  go_loopw [32] (fun i wr => EqL2 w (boxS m A ts'.length c D ps.length d) (boxS m A' ts'.length c' D' ps.length d') ts ts' i wr) (fun i _ => ts'.length - (intOf i).toNat)
  case atStart => exact ⟨0, by omega, rfl, fun j hj => by omega, HF.out⟩
  case round =>
    clear x1 x2
    obtain ⟨k2, hk2, rfl, hall, hf⟩ := hrel
    have x1 := blk_cell hf.one
    have x2 := blk_cell hf.two
    clear HF
    have HF := Lib.hid hf
    have HA := Lib.hid hall
    have hk2' : k2 ≤ ts'.length := by rw [← HL.out]; exact hk2
    clear hall hf hk2
    by_cases hlt2 : k2 < ts'.length
    · obtain ⟨t, ht⟩ : ∃ t, ts[k2]? = some t := ⟨_, List.getElem?_eq_getElem (by rw [HL.out]; exact hlt2)⟩
      obtain ⟨t', ht'⟩ : ∃ t, ts'[k2]? = some t := ⟨_, List.getElem?_eq_getElem hlt2⟩
      obtain ⟨b1, o1, u1, e1, rfl, c0, c1⟩ := thr_cell2 HT.out HF.out.below.size HF.out.below.block ht
      obtain ⟨b2, o2, u2, e2, rfl, d0, d1⟩ := thr_cell2 HT'.out HF.out.below.size HF.out.below.block ht'
      have lt := L2.out t (List.mem_of_getElem? ht)
      have lt' := L2'.out t' (List.mem_of_getElem? ht')
      have C1 := Lib.hid c1
      have D1 := Lib.hid d1
      have HO := Lib.hid ht
      have HO' := Lib.hid ht'
      clear ht ht' c1 d1
      by_cases htt : t = t'
      · subst htt
        go_wp2_with fail
        refine (sops_same _ u1 u2 e1 e2 t C1.out D1.out lt).mono ?_
        rintro e w2 ⟨rfl, hf2⟩
        have H2 : Hid (Boxed w (boxS m (some ⟨b1, o1, none⟩) ts'.length c D ps.length d) (boxS m (some ⟨b2, o2, none⟩) ts'.length c' D' ps.length d') w2) := by
          obtain ⟨n2, rfl⟩ := hf2
          exact FewDraws.drewN HF.out n2
        clear hf2
        go_wp2_with fail
        go_roundw
        case rel => exact ⟨k2 + 1, by rw [HL.out]; omega, by go_num, fun j hj => by
          by_cases e : j = k2
          · subst e; rw [HO.out, HO'.out]
          · exact HA.out j (by omega), H2.out⟩
        case measure => simp [intOf]; omega
      · have TT := Lib.hid htt
        clear htt
        go_wp2_with fail
        refine (sops_diff _ u1 u2 e1 e2 t t' C1.out D1.out lt lt' TT.out).mono ?_
        rintro e w2 ⟨rfl, hf2⟩
        have H2 : Hid (Below w.heap.size w w2) := HF.out.below.trans (FewDraws.below hf2 _)
        clear hf2
        go_wp2_with fail
        go_ret
        exact ⟨rfl, H2.out⟩
    · exact absurd (list_eq HL.out (fun j hj => HA.out j (by rw [HL.out] at hj; omega))) HN.out
theorem equal_diff (w : World) (A D A' D' : Option Addr) (c d c' d' : Nat) (s s' : ScrD) (h : ScrAt w A D s) (h' : ScrAt w A' D' s') (hne : s ≠ s') :
    Calls Tryd.prog 22 #[scrV s.mask A s.threads.length c D s.picks.length d, scrV s'.mask A' s'.threads.length c' D' s'.picks.length d'] w fun e w' => e = .returned (.bool false) ∧ Below w.heap.size w w' := by
  by_cases h1 : s.mask = s'.mask
  · by_cases h2 : s.threads.length = s'.threads.length
    · by_cases h3 : s.picks = s'.picks
      · refine equal_threads w A D A' D' c d c' d' s s' h h' h1 h2 h3 (fun h4 => hne ?_)
        obtain ⟨m, ts, ps⟩ := s
        obtain ⟨m', ts', ps'⟩ := s'
        simp only at h1 h3 h4
        rw [h1, h3, h4]
      · exact equal_picks w A D A' D' c d c' d' s s' h h' h1 h2 h3
    · exact equal_sizes w A D A' D' c d c' d' s s' h h' (Or.inr ⟨h1, h2⟩)
  · exact equal_sizes w A D A' D' c d c' d' s s' h h' (Or.inl h1)
end Go.Proofs.YtnoeiaicligmiaaDoor
