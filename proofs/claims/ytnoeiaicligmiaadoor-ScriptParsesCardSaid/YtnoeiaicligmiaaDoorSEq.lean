/- The walks of the reference's Ops and Equal. -/
import Derived.Test.YtnoeiaicligmiaaDoorSChk
import Derived.Lib.Strings
namespace Go.Proofs.YtnoeiaicligmiaaDoor
set_option linter.unusedVariables false
set_option linter.unusedSimpArgs false
open Go Go.RowKit
def FewDraws (w w' : World) : Prop := ∃ n, w' = w.drewN n
def OpLp (w : World) (a b : List OpD) (i : Value) (wr : World) : Prop := ∃ k : Nat, k ≤ a.length ∧ i = .int .i64 k ∧ (∀ j, j < k → a[j]? = b[j]?) ∧ FewDraws w wr
theorem drewN_zero (w : World) : w.drewN 0 = w := rfl
theorem FewDraws.refl (w : World) : FewDraws w w := ⟨0, rfl⟩
theorem FewDraws.drewN {w w' : World} (h : FewDraws w w') (n : Nat) : FewDraws w (w'.drewN n) := by
  obtain ⟨k, rfl⟩ := h
  exact ⟨k + n, by simp [World.drewN, Nat.add_assoc]⟩
theorem FewDraws.heap {w w' : World} (h : FewDraws w w') : w'.heap = w.heap := by
  obtain ⟨k, rfl⟩ := h
  rfl
theorem FewDraws.below {w w' : World} (h : FewDraws w w') (B : Nat) : Below B w w' := by
  obtain ⟨k, rfl⟩ := h
  exact ⟨rfl, rfl, rfl, Nat.le_refl _, fun _ _ => rfl⟩
theorem ops_cells {w wr : World} {u : Option Addr} {t : List OpD} (h : OpsAt w u t) (hw : wr.heap = w.heap) {k : Nat} {o : OpD} (hk : t[k]? = some o) :
    ∃ b off, u = some ⟨b, off, none⟩ ∧ wr.cell? ⟨b, off + k * 5, none⟩ = some (.int .i64 o.kind) ∧ wr.cell? ⟨b, off + k * 5 + 1, none⟩ = some (.int .i64 o.handle) ∧ wr.cell? ⟨b, off + k * 5 + 2, none⟩ = some (.string o.key) ∧
    wr.cell? ⟨b, off + k * 5 + 3, none⟩ = some (.int .u64 o.value) ∧ wr.cell? ⟨b, off + k * 5 + 4, none⟩ = some (.int .u64 o.expect) := by
  obtain ⟨b, off, hu, _, hc⟩ := h (by have := (List.getElem?_eq_some_iff.1 hk).1; omega)
  obtain ⟨c0, c1, c2, c3, c4⟩ := hc k o hk
  have e : wr.heap[b]? = w.heap[b]? := by rw [hw]
  exact ⟨b, off, hu, (World.cell?_of_block e).trans c0, (World.cell?_of_block e).trans c1, (World.cell?_of_block e).trans c2, (World.cell?_of_block e).trans c3, (World.cell?_of_block e).trans c4⟩
theorem bytes_ext (a b : ByteArray) (h : a.toList = b.toList) : a = b := by
  rw [Lib.toList_data, Lib.toList_data] at h
  cases a; cases b
  simp only [ByteArray.mk.injEq]
  exact Array.toList_inj.mp h
/-- where two operations differ first -/
theorem op_ne {o p : OpD} (h : o ≠ p) : (o.kind == p.kind) = false ∨ (o.kind = p.kind ∧ (o.handle == p.handle) = false) ∨ (o.kind = p.kind ∧ o.handle = p.handle ∧ (o.key.toList == p.key.toList) = false) ∨
    (o.kind = p.kind ∧ o.handle = p.handle ∧ o.key = p.key ∧ (o.value == p.value) = false) ∨ (o.kind = p.kind ∧ o.handle = p.handle ∧ o.key = p.key ∧ o.value = p.value ∧ (o.expect == p.expect) = false) := by
  obtain ⟨a, b, c, d, e⟩ := o
  obtain ⟨a', b', c', d', e'⟩ := p
  simp only [beq_eq_false_iff_ne, ne_eq]
  by_cases h1 : a = a'
  · by_cases h2 : b = b'
    · by_cases h3 : c = c'
      · by_cases h4 : d = d'
        · by_cases h5 : e = e'
          · subst h1 h2 h3 h4 h5; exact absurd rfl h
          · exact Or.inr (Or.inr (Or.inr (Or.inr ⟨h1, h2, h3, h4, h5⟩)))
        · exact Or.inr (Or.inr (Or.inr (Or.inl ⟨h1, h2, h3, h4⟩)))
      · exact Or.inr (Or.inr (Or.inl ⟨h1, h2, fun hx => h3 (bytes_ext _ _ hx)⟩))
    · exact Or.inr (Or.inl ⟨h1, h2⟩)
  · exact Or.inl h1
theorem list_ne {a b : List OpD} (hl : a.length = b.length) (h : ∀ j, j < a.length → a[j]? = b[j]?) : a = b := by
  apply List.ext_getElem?
  intro i
  by_cases hi : i < a.length
  · exact h i hi
  · rw [List.getElem?_eq_none (by omega), List.getElem?_eq_none (by omega)]
set_option maxHeartbeats 2000000 in
theorem ops_diff (w : World) (u v : Option Addr) (c d : Nat) (a b : List OpD) (hu : OpsAt w u a) (hv : OpsAt w v b) (la : a.length ≤ 4611686018427387904) (lb : b.length ≤ 4611686018427387904) (hne : a ≠ b) :
    Calls Tryd.prog 38 #[.slice u a.length c, .slice v b.length d] w fun e w' => e = .returned (.bool false) ∧ FewDraws w w' := by
  by_cases hl : a.length = b.length
  · have HU := Lib.hid hu
    have HV := Lib.hid hv
    have HL := Lib.hid hl
    have hb1 : ((a.length : Int) != (b.length : Int)) = false := by simp [hl]
    have HN := Lib.hid hne
    rw [hl]
    clear hu hv hne
    go_enter Tryd.func38, Tryd.ntmps38
    go_wp2_with fail
    go_loopw [5] (fun i wr => OpLp w a b i wr) (fun i _ => a.length - (intOf i).toNat)
    case atStart => exact ⟨0, by omega, rfl, fun j hj => by omega, FewDraws.refl w⟩
    case round =>
      obtain ⟨k, hk, rfl, hall, hf⟩ := hrel
      have HA := Lib.hid hall
      have HF := Lib.hid hf
      clear hall hf
      by_cases hlt : k < a.length
      · obtain ⟨o, ho⟩ : ∃ o, a[k]? = some o := ⟨_, List.getElem?_eq_getElem hlt⟩
        obtain ⟨p, hp⟩ : ∃ p, b[k]? = some p := ⟨_, List.getElem?_eq_getElem (by omega)⟩
        obtain ⟨b1, o1, rfl, c0, c1, c2, c3, c4⟩ := ops_cells HU.out HF.out.heap ho
        obtain ⟨b2, o2, rfl, d0, d1, d2, d3, d4⟩ := ops_cells HV.out HF.out.heap hp
        have hj0 : (0 : Int) ≤ k := by omega
        have hj1 : (k : Int) < b.length := by omega
        have HO := Lib.hid ho
        have HP := Lib.hid hp
        clear ho hp
        by_cases hop : o = p
        · subst hop
          go_wp2_with fail
          go_quiet (fail)
          go_wp2_with fail
          go_roundw
          case rel => exact ⟨k + 1, by omega, by go_num, fun j hj => by
            by_cases e : j = k
            · subst e; rw [HO.out, HP.out]
            · exact HA.out j (by omega), HF.out.drewN _⟩
          case measure => simp [intOf]; omega
        · have hcase := op_ne hop
          obtain ⟨k1, h1, y1, v1, e1⟩ := o
          obtain ⟨k2, h2, y2, v2, e2⟩ := p
          simp only at hcase c0 c1 c2 c3 c4 d0 d1 d2 d3 d4
          clear hop HO HP
          rcases hcase with hx | ⟨rfl, hx⟩ | ⟨rfl, rfl, hx⟩ | ⟨rfl, rfl, rfl, hx⟩ | ⟨rfl, rfl, rfl, rfl, hx⟩
          all_goals
            go_wp2_with fail
            go_quiet (fail)
            go_wp2_with fail
            go_ret
            exact ⟨rfl, HF.out.drewN _⟩
      · exact absurd (list_ne HL.out (fun j hj => HA.out j (by omega))) HN.out
  · have hb1 : ((a.length : Int) != (b.length : Int)) = true := by simp; omega
    clear hu hv hne
    go_enter Tryd.func38, Tryd.ntmps38
    go_wp2_with fail
    go_ret
    exact ⟨rfl, FewDraws.refl w⟩
set_option maxHeartbeats 1000000 in
theorem ops_same (w : World) (u v : Option Addr) (c d : Nat) (a : List OpD) (hu : OpsAt w u a) (hv : OpsAt w v a) (la : a.length ≤ 4611686018427387904) :
    Calls Tryd.prog 38 #[.slice u a.length c, .slice v a.length d] w fun e w' => e = .returned (.bool true) ∧ FewDraws w w' := by
  have HU := Lib.hid hu
  have HV := Lib.hid hv
  clear hu hv
  go_enter Tryd.func38, Tryd.ntmps38
  go_wp2_with fail
  go_loopw [5] (fun i wr => OpLp w a a i wr) (fun i _ => a.length - (intOf i).toNat)
  case atStart => exact ⟨0, by omega, rfl, fun j hj => rfl, FewDraws.refl w⟩
  case round =>
    obtain ⟨k, hk, rfl, hall, hf⟩ := hrel
    have HF := Lib.hid hf
    clear hall hf
    by_cases hlt : k < a.length
    · obtain ⟨o, ho⟩ : ∃ o, a[k]? = some o := ⟨_, List.getElem?_eq_getElem hlt⟩
      obtain ⟨b1, o1, rfl, c0, c1, c2, c3, c4⟩ := ops_cells HU.out HF.out.heap ho
      obtain ⟨b2, o2, rfl, d0, d1, d2, d3, d4⟩ := ops_cells HV.out HF.out.heap ho
      have hj0 : (0 : Int) ≤ k := by omega
      have hj1 : (k : Int) < a.length := by omega
      clear ho
      go_wp2_with fail
      go_quiet (fail)
      go_wp2_with fail
      go_roundw
      case rel => exact ⟨k + 1, by omega, by go_num, fun j hj => rfl, HF.out.drewN _⟩
      case measure => simp [intOf]; omega
    · go_wp2_with fail
      go_ret
      exact ⟨rfl, HF.out⟩
end Go.Proofs.YtnoeiaicligmiaaDoor
