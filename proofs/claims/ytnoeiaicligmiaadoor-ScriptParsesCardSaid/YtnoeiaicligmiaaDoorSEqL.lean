/- The walks of slices.Equal at numbers and at operations. -/
import Derived.Test.YtnoeiaicligmiaaDoorSEqS
namespace Go.Proofs.YtnoeiaicligmiaaDoor
set_option linter.unusedVariables false
set_option linter.unusedSimpArgs false
open Go Go.RowKit
set_option maxHeartbeats 2000000 in
theorem sops_diff (w : World) (u v : Option Addr) (c d : Nat) (a b : List OpD) (hu : OpsAt w u a) (hv : OpsAt w v b) (la : a.length ≤ 4611686018427387904) (lb : b.length ≤ 4611686018427387904) (hne : a ≠ b) :
    Calls Tryd.prog 41 #[.slice u a.length c, .slice v b.length d] w fun e w' => e = .returned (.bool false) ∧ FewDraws w w' := by
  by_cases hl : a.length = b.length
  · have HU := Lib.hid hu
    have HV := Lib.hid hv
    have HL := Lib.hid hl
    have hb1 : ((a.length : Int) != (b.length : Int)) = false := by simp [hl]
    have HN := Lib.hid hne
    rw [hl]
    clear hu hv hne
    go_enter Tryd.func41, Tryd.ntmps41
    go_wp2_with fail
    go_loopw [13] (fun i wr => OpLp w a b i wr) (fun i _ => a.length - (intOf i).toNat)
    case atStart => exact ⟨0, by omega, rfl, fun j hj => by omega, FewDraws.refl w⟩
    case round =>
      obtain ⟨k, hk, rfl, hall, hf⟩ := hrel
      have HA := Lib.hid hall
      have HF := Lib.hid hf
      clear hall hf
      by_cases hlt : k < a.length
      · obtain ⟨o, ho⟩ : ∃ o, a[k]? = some o := ⟨_, List.getElem?_eq_getElem hlt⟩
        obtain ⟨p, hp⟩ : ∃ p, b[k]? = some p := ⟨_, List.getElem?_eq_getElem (by omega)⟩
        obtain ⟨b1, o1, rfl, c0, c1, c2, c3, c4⟩ := ops_cells HU.out HF.out.heap ho
        obtain ⟨b2, o2, rfl, d0, d1, d2, d3, d4⟩ := ops_cells HV.out HF.out.heap hp
        have hj0 : (0 : Int) ≤ k := by omega
        have hj1 : (k : Int) < b.length := by omega
        have HO := Lib.hid ho
        have HP := Lib.hid hp
        clear ho hp
        by_cases hop : o = p
        · subst hop
          go_wp2_with fail
          go_quiet (fail)
          go_wp2_with fail
          go_roundw
          case rel => exact ⟨k + 1, by omega, by go_num, fun j hj => by
            by_cases e : j = k
            · subst e; rw [HO.out, HP.out]
            · exact HA.out j (by omega), HF.out.drewN _⟩
          case measure => simp [intOf]; omega
        · have hcase := op_ne hop
          obtain ⟨k1, h1, y1, v1, e1⟩ := o
          obtain ⟨k2, h2, y2, v2, e2⟩ := p
          simp only at hcase c0 c1 c2 c3 c4 d0 d1 d2 d3 d4
          clear hop HO HP
          rcases hcase with hx | ⟨rfl, hx⟩ | ⟨rfl, rfl, hx⟩ | ⟨rfl, rfl, rfl, hx⟩ | ⟨rfl, rfl, rfl, rfl, hx⟩
          all_goals
            go_wp2_with fail
            go_quiet (fail)
            go_wp2_with fail
            go_ret
            exact ⟨rfl, HF.out.drewN _⟩
      · exact absurd (list_ne HL.out (fun j hj => HA.out j (by omega))) HN.out
  · have hb1 : ((a.length : Int) != (b.length : Int)) = true := by simp; omega
    clear hu hv hne
    go_enter Tryd.func41, Tryd.ntmps41
    go_wp2_with fail
    go_ret
    exact ⟨rfl, FewDraws.refl w⟩
set_option maxHeartbeats 1000000 in
theorem sops_same (w : World) (u v : Option Addr) (c d : Nat) (a : List OpD) (hu : OpsAt w u a) (hv : OpsAt w v a) (la : a.length ≤ 4611686018427387904) :
    Calls Tryd.prog 41 #[.slice u a.length c, .slice v a.length d] w fun e w' => e = .returned (.bool true) ∧ FewDraws w w' := by
  have HU := Lib.hid hu
  have HV := Lib.hid hv
  clear hu hv
  go_enter Tryd.func41, Tryd.ntmps41
  go_wp2_with fail
  go_loopw [13] (fun i wr => OpLp w a a i wr) (fun i _ => a.length - (intOf i).toNat)
  case atStart => exact ⟨0, by omega, rfl, fun j hj => rfl, FewDraws.refl w⟩
  case round =>
    obtain ⟨k, hk, rfl, hall, hf⟩ := hrel
    have HF := Lib.hid hf
    clear hall hf
    by_cases hlt : k < a.length
    · obtain ⟨o, ho⟩ : ∃ o, a[k]? = some o := ⟨_, List.getElem?_eq_getElem hlt⟩
      obtain ⟨b1, o1, rfl, c0, c1, c2, c3, c4⟩ := ops_cells HU.out HF.out.heap ho
      obtain ⟨b2, o2, rfl, d0, d1, d2, d3, d4⟩ := ops_cells HV.out HF.out.heap ho
      have hj0 : (0 : Int) ≤ k := by omega
      have hj1 : (k : Int) < a.length := by omega
      clear ho
      go_wp2_with fail
      go_quiet (fail)
      go_wp2_with fail
      go_roundw
      case rel => exact ⟨k + 1, by omega, by go_num, fun j hj => rfl, HF.out.drewN _⟩
      case measure => simp [intOf]; omega
    · go_wp2_with fail
      go_ret
      exact ⟨rfl, HF.out⟩
def IntLp (w : World) (a b : List Int) (i : Value) (wr : World) : Prop := ∃ k : Nat, k ≤ a.length ∧ i = .int .i64 k ∧ (∀ j, j < k → a[j]? = b[j]?) ∧ FewDraws w wr
set_option maxHeartbeats 1000000 in
theorem sints_diff (w : World) (u v : Option Addr) (c d : Nat) (a b : List Int) (hu : PicksAt w u a) (hv : PicksAt w v b) (la : a.length ≤ 4611686018427387904) (lb : b.length ≤ 4611686018427387904) (hne : a ≠ b) :
    Calls Tryd.prog 40 #[.slice u a.length c, .slice v b.length d] w fun e w' => e = .returned (.bool false) ∧ FewDraws w w' := by
  by_cases hl : a.length = b.length
  · have HU := Lib.hid hu
    have HV := Lib.hid hv
    have HL := Lib.hid hl
    have HN := Lib.hid hne
    rw [hl]
    clear hu hv hne
    go_enter Tryd.func40, Tryd.ntmps40
    go_wp2_with fail
    go_loopw [13] (fun i wr => IntLp w a b i wr) (fun i _ => a.length - (intOf i).toNat)
    case atStart => exact ⟨0, by omega, rfl, fun j hj => by omega, FewDraws.refl w⟩
    case round =>
      obtain ⟨k, hk, rfl, hall, hf⟩ := hrel
      have HA := Lib.hid hall
      have HF := Lib.hid hf
      clear hall hf
      by_cases hlt : k < a.length
      · obtain ⟨o, ho⟩ : ∃ o, a[k]? = some o := ⟨_, List.getElem?_eq_getElem hlt⟩
        obtain ⟨p, hp⟩ : ∃ p, b[k]? = some p := ⟨_, List.getElem?_eq_getElem (by omega)⟩
        obtain ⟨b1, o1, rfl, c0⟩ := picks_cell HU.out (fun x _ => by rw [HF.out.heap]) ho
        obtain ⟨b2, o2, rfl, d0⟩ := picks_cell HV.out (fun x _ => by rw [HF.out.heap]) hp
        have hj0 : (0 : Int) ≤ k := by omega
        have hj1 : (k : Int) < b.length := by omega
        have HO := Lib.hid ho
        have HP := Lib.hid hp
        clear ho hp
        by_cases hop : o = p
        · subst hop
          go_wp2_with fail
          go_quiet (fail)
          go_wp2_with fail
          go_roundw
          case rel => exact ⟨k + 1, by omega, by go_num, fun j hj => by
            by_cases e : j = k
            · subst e; rw [HO.out, HP.out]
            · exact HA.out j (by omega), HF.out.drewN _⟩
          case measure => simp [intOf]; omega
        · have hx : (o == p) = false := by simpa using hop
          have hx2 : (o != p) = true := by simpa using hop
          clear hop HO HP
          go_wp2_with fail
          go_quiet (fail)
          go_wp2_with fail
          go_ret
          exact ⟨rfl, HF.out.drewN _⟩
      · exact absurd (list_eq HL.out (fun j hj => HA.out j (by omega))) HN.out
  · have hb1 : ((a.length : Int) != (b.length : Int)) = true := by simp; omega
    clear hu hv hne
    go_enter Tryd.func40, Tryd.ntmps40
    go_wp2_with fail
    go_ret
    exact ⟨rfl, FewDraws.refl w⟩
set_option maxHeartbeats 1000000 in
theorem sints_same (w : World) (u v : Option Addr) (c d : Nat) (a : List Int) (hu : PicksAt w u a) (hv : PicksAt w v a) (la : a.length ≤ 4611686018427387904) :
    Calls Tryd.prog 40 #[.slice u a.length c, .slice v a.length d] w fun e w' => e = .returned (.bool true) ∧ FewDraws w w' := by
  have HU := Lib.hid hu
  have HV := Lib.hid hv
  clear hu hv
  go_enter Tryd.func40, Tryd.ntmps40
  go_wp2_with fail
  go_loopw [13] (fun i wr => IntLp w a a i wr) (fun i _ => a.length - (intOf i).toNat)
  case atStart => exact ⟨0, by omega, rfl, fun j hj => rfl, FewDraws.refl w⟩
  case round =>
    obtain ⟨k, hk, rfl, hall, hf⟩ := hrel
    have HF := Lib.hid hf
    clear hall hf
    by_cases hlt : k < a.length
    · obtain ⟨o, ho⟩ : ∃ o, a[k]? = some o := ⟨_, List.getElem?_eq_getElem hlt⟩
      obtain ⟨b1, o1, rfl, c0⟩ := picks_cell HU.out (fun x _ => by rw [HF.out.heap]) ho
      obtain ⟨b2, o2, rfl, d0⟩ := picks_cell HV.out (fun x _ => by rw [HF.out.heap]) ho
      have hj0 : (0 : Int) ≤ k := by omega
      have hj1 : (k : Int) < a.length := by omega
      clear ho
      go_wp2_with fail
      go_quiet (fail)
      go_wp2_with fail
      go_roundw
      case rel => exact ⟨k + 1, by omega, by go_num, fun j hj => rfl, HF.out.drewN _⟩
      case measure => simp [intOf]; omega
    · go_wp2_with fail
      go_ret
      exact ⟨rfl, HF.out⟩
end Go.Proofs.YtnoeiaicligmiaaDoor
