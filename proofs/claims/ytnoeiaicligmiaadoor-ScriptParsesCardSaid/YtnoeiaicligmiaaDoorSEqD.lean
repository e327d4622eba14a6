/- The walk of the reference's Equal at two scripts that differ. -/
import Derived.Test.YtnoeiaicligmiaaDoorSEqS
import Derived.MapKept
namespace Go.Proofs.YtnoeiaicligmiaaDoor
set_option linter.unusedVariables false
set_option linter.unusedSimpArgs false
open Go Go.RowKit
set_option maxRecDepth 100000 in
set_option maxHeartbeats 4000000 in
theorem requal_lists (w : World) (A D A' D' : Option Addr) (c d c' d' : Nat) (s s' : ScrD) (h : ScrAt w A D s) (h' : ScrAt w A' D' s') (hm : s.mask = s'.mask) (ht0 : s.threads.length = s'.threads.length) (hp0 : s.picks.length = s'.picks.length) (hne : s ≠ s') :
    Calls Tryd.prog 18 #[scrV s.mask A s.threads.length c D s.picks.length d, scrV s'.mask A' s'.threads.length c' D' s'.picks.length d'] w fun e w' => e = .returned (.bool false) ∧ Below w.heap.size w w' := by
  obtain ⟨m, ts, ps⟩ := s
  obtain ⟨m', ts', ps'⟩ := s'
  have hl0 := h'.l0
  have hl1 := h'.l1
  have L2 := Lib.hid h.l2
  have L2' := Lib.hid h'.l2
  have HT := Lib.hid h.thr
  have HT' := Lib.hid h'.thr
  have HP := Lib.hid h.pks
  have HP' := Lib.hid h'.pks
  simp only [scrV] at *
  subst hm
  have HL := Lib.hid ht0
  have HQ := Lib.hid hp0
  have HN := Lib.hid hne
  rw [ht0, hp0]
  clear h h' hne ht0 hp0
  go_enter Tryd.func18, Tryd.ntmps18
  go_wp2_with fail
  go_loopw [5] (fun i wr => EqL1 w (boxS m A ts'.length c D ps'.length d) (boxS m A' ts'.length c' D' ps'.length d') ps ps' i wr) (fun i _ => ps'.length - (intOf i).toNat)
  case atStart => exact ⟨0, by omega, rfl, fun j hj => by omega, FewDraws.refl _⟩
  case round =>
    obtain ⟨k, hk, rfl, hall, hf⟩ := hrel
    have x1 := blk_cell hf.one
    have x2 := blk_cell hf.two
    have HF := Lib.hid hf
    have HA := Lib.hid hall
    have hk' : k ≤ ps'.length := by rw [← HQ.out]; exact hk
    clear hall hf hk
    by_cases hlt : k < ps'.length
    · obtain ⟨p, hp⟩ : ∃ p, ps[k]? = some p := ⟨_, List.getElem?_eq_getElem (by rw [HQ.out]; exact hlt)⟩
      obtain ⟨p', hp'⟩ : ∃ p, ps'[k]? = some p := ⟨_, List.getElem?_eq_getElem hlt⟩
      obtain ⟨b1, o1, rfl, c0⟩ := picks_cell HP.out HF.out.below.block hp
      obtain ⟨b2, o2, rfl, d0⟩ := picks_cell HP'.out HF.out.below.block hp'
      have hj0 : (0 : Int) ≤ k := by omega
      have hj1 : (k : Int) < ps'.length := by omega
      have HO := Lib.hid hp
      have HO' := Lib.hid hp'
      clear hp hp'
      by_cases hpp : p = p'
      · subst hpp
        go_wp2_with fail
        go_quiet (fail)
        go_wp2_with fail
        go_roundw
        case rel => exact ⟨k + 1, by rw [HQ.out]; omega, by go_num, fun j hj => by
          by_cases e : j = k
          · subst e; rw [HO.out, HO'.out]
          · exact HA.out j (by omega), FewDraws.drewN HF.out _⟩
        case measure => simp [intOf]; omega
      · have hx : (p == p') = false := by simpa using hpp
        have hx2 : (p != p') = true := by simpa using hpp
        clear hpp
        go_wp2_with fail
        go_quiet (fail)
        go_wp2_with fail
        go_ret
        exact ⟨rfl, below_drews HF.out.below _⟩
    · have EQ := Lib.hid (show ps = ps' from list_eq HQ.out (fun j hj => HA.out j (by rw [HQ.out] at hj; omega)))
      go_wp2_with fail
      go_loopw [6] (fun i wr => EqL2 w (boxS m A ts'.length c D ps'.length d) (boxS m A' ts'.length c' D' ps'.length d') ts ts' i wr) (fun i _ => ts'.length - (intOf i).toNat)
      case atStart => exact ⟨0, by omega, rfl, fun j hj => by omega, HF.out⟩
      case round =>
        clear x1 x2 HA
        obtain ⟨k2, hk2, rfl, hall, hf⟩ := hrel
        have x1 := blk_cell hf.one
        have x2 := blk_cell hf.two
        clear HF
        have HF := Lib.hid hf
        have HA := Lib.hid hall
        have hk2' : k2 ≤ ts'.length := by rw [← HL.out]; exact hk2
        clear hall hf hk2
        by_cases hlt2 : k2 < ts'.length
        · obtain ⟨t, ht⟩ : ∃ t, ts[k2]? = some t := ⟨_, List.getElem?_eq_getElem (by rw [HL.out]; exact hlt2)⟩
          obtain ⟨t', ht'⟩ : ∃ t, ts'[k2]? = some t := ⟨_, List.getElem?_eq_getElem hlt2⟩
          obtain ⟨b1, o1, u1, e1, rfl, c0, c1⟩ := thr_cell2 HT.out HF.out.below.size HF.out.below.block ht
          obtain ⟨b2, o2, u2, e2, rfl, d0, d1⟩ := thr_cell2 HT'.out HF.out.below.size HF.out.below.block ht'
          have lt := L2.out t (List.mem_of_getElem? ht)
          have lt' := L2'.out t' (List.mem_of_getElem? ht')
          have C1 := Lib.hid c1
          have D1 := Lib.hid d1
          have hj0 : (0 : Int) ≤ k2 := by omega
          have hj1 : (k2 : Int) < ts'.length := by omega
          have HO := Lib.hid ht
          have HO' := Lib.hid ht'
          clear ht ht' c1 d1
          by_cases htt : t = t'
          · subst htt
            go_wp2_with fail
            go_quiet ((go_at_call 38; exact Calls.quiet_of (ops_same _ u1 u2 e1 e2 t C1.out D1.out lt)))
            go_wp2_with fail
            go_roundw
            case rel => exact ⟨k2 + 1, by rw [HL.out]; omega, by go_num, fun j hj => by
              by_cases e : j = k2
              · subst e; rw [HO.out, HO'.out]
              · exact HA.out j (by omega), FewDraws.drewN HF.out _⟩
            case measure => simp [intOf]; omega
          · have TT := Lib.hid htt
            clear htt
            go_wp2_with fail
            go_quiet ((go_at_call 38; exact Calls.quiet_of (ops_diff _ u1 u2 e1 e2 t t' C1.out D1.out lt lt' TT.out)))
            go_wp2_with fail
            go_ret
            exact ⟨rfl, below_drews HF.out.below _⟩
        · exact absurd (by rw [EQ.out, show ts = ts' from list_eq HL.out (fun j hj => HA.out j (by rw [HL.out] at hj; omega))]) HN.out
set_option maxHeartbeats 2000000 in
theorem requal_sizes (w : World) (A D A' D' : Option Addr) (c d c' d' : Nat) (s s' : ScrD) (h : ScrAt w A D s) (h' : ScrAt w A' D' s') (hne : s.mask ≠ s'.mask ∨ (s.mask = s'.mask ∧ s.threads.length ≠ s'.threads.length) ∨ (s.mask = s'.mask ∧ s.threads.length = s'.threads.length ∧ s.picks.length ≠ s'.picks.length)) :
    Calls Tryd.prog 18 #[scrV s.mask A s.threads.length c D s.picks.length d, scrV s'.mask A' s'.threads.length c' D' s'.picks.length d'] w fun e w' => e = .returned (.bool false) ∧ Below w.heap.size w w' := by
  obtain ⟨m, ts, ps⟩ := s
  obtain ⟨m', ts', ps'⟩ := s'
  have hl0 := h'.l0
  have hl1 := h'.l1
  have hl2 := h.l0
  have hl3 := h.l1
  simp only [scrV] at *
  clear h h'
  rcases hne with hx | ⟨rfl, hx⟩ | ⟨rfl, h2, hx⟩
  · have y1 : (m == m') = false := by simpa using hx
    have y2 : (m != m') = true := by simpa using hx
    clear hx
    go_enter Tryd.func18, Tryd.ntmps18
    go_wp2_with fail
    go_ret
    exact ⟨rfl, ((Below.refl _ _).alloc (Nat.le_refl _) _).alloc (by simp) _⟩
  · have y2 : ((ts.length : Int) != (ts'.length : Int)) = true := by simp; omega
    have y1 : ((ts.length : Int) == (ts'.length : Int)) = false := by simp; omega
    go_enter Tryd.func18, Tryd.ntmps18
    go_wp2_with fail
    go_ret
    exact ⟨rfl, ((Below.refl _ _).alloc (Nat.le_refl _) _).alloc (by simp) _⟩
  · rw [h2]
    clear h2
    have y2 : ((ps.length : Int) != (ps'.length : Int)) = true := by simp; omega
    have y1 : ((ps.length : Int) == (ps'.length : Int)) = false := by simp; omega
    go_enter Tryd.func18, Tryd.ntmps18
    go_wp2_with fail
    go_ret
    exact ⟨rfl, ((Below.refl _ _).alloc (Nat.le_refl _) _).alloc (by simp) _⟩
theorem requal_diff (w : World) (A D A' D' : Option Addr) (c d c' d' : Nat) (s s' : ScrD) (h : ScrAt w A D s) (h' : ScrAt w A' D' s') (hne : s ≠ s') :
    Calls Tryd.prog 18 #[scrV s.mask A s.threads.length c D s.picks.length d, scrV s'.mask A' s'.threads.length c' D' s'.picks.length d'] w fun e w' => e = .returned (.bool false) ∧ Below w.heap.size w w' := by
  by_cases h1 : s.mask = s'.mask
  · by_cases h2 : s.threads.length = s'.threads.length
    · by_cases h3 : s.picks.length = s'.picks.length
      · exact requal_lists w A D A' D' c d c' d' s s' h h' h1 h2 h3 hne
      · exact requal_sizes w A D A' D' c d c' d' s s' h h' (Or.inr (Or.inr ⟨h1, h2, h3⟩))
    · exact requal_sizes w A D A' D' c d c' d' s s' h h' (Or.inr (Or.inl ⟨h1, h2⟩))
  · exact requal_sizes w A D A' D' c d c' d' s s' h h' (Or.inl h1)
end Go.Proofs.YtnoeiaicligmiaaDoor
