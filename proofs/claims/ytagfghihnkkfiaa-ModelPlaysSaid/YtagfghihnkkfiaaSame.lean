/- The walk of the law's same. -/
import Derived.Test.YtagfghihnkkfiaaCopy
import Derived.Test.YtagfghihnkkfiaaModQ
import Derived.Test.YtagfghihnkkfiaaPlTwo
import Derived.Test.YtagfghihnkkfiaaEqv
namespace Go.Proofs.Ytagfghihnkkfiaa
set_option linter.unusedVariables false
set_option linter.unusedSimpArgs false
open Go Go.RowKit Go.MapKept
theorem list_pr {w w' : World} {L : List (ByteArray × Int)} {m : Int} {v : Value} (h : ListPost w L m v w') :
    ∃ g : Nat, v = .slice (some ⟨g, 0, none⟩) (sortedOf m L).length (sortedOf m L).length ∧ PrAt (NewB w w') w' (some ⟨g, 0, none⟩) (sortedOf m L) ∧ Below w.heap.size w w' := by
  obtain ⟨g, hv, hr, hb⟩ := h
  refine ⟨g, by rw [sortedOf_length]; exact hv, prAt_of_row (w0 := w) (n := L.length) (c := L.length) hr (sortedOf_length m L).symm, hb⟩
theorem sorted_same {L M K : List Int} (hL : L.Perm K) (hM : M.Perm K) (h1 : L.Pairwise (fun a b => a ≤ b)) (h2 : M.Pairwise (fun a b => a ≤ b)) : L = M :=
  List.Perm.eq_of_pairwise (le := fun a b => a ≤ b) (fun a b _ _ h1 h2 => by omega) h1 h2 (hL.trans hM.symm)
theorem sorted_lt {L K : List Int} (hL : L.Perm K) (hn : K.Nodup) (h1 : L.Pairwise (fun a b => a ≤ b)) {j : Nat} {x y : Int} (hx : L[j]? = some x) (hy : L[j + 1]? = some y) : x < y := by
  have hnL : L.Nodup := hL.nodup_iff.2 hn
  obtain ⟨a1, e1⟩ := List.getElem?_eq_some_iff.1 hx
  obtain ⟨a2, e2⟩ := List.getElem?_eq_some_iff.1 hy
  have := List.pairwise_iff_getElem.1 h1 j (j + 1) a1 a2 (by omega)
  have hne : L[j] ≠ L[j + 1] := fun e => by
    have := (List.getElem_inj hnL).1 e
    omega
  rw [e1, e2] at this hne
  omega
/-- the numbers, somewhere -/
def HandZ (W0 : World) (n : Nat) (zs : List Int) (e : Ending) (w' : World) : Prop := ∃ g : Nat, e = .returned (.slice (some ⟨g, 0, none⟩) n n) ∧ IntsIn w' g zs ∧ g < w'.heap.size ∧ Below W0.heap.size W0 w'
/-- the pairs, somewhere -/
def ContZ (W0 : World) (l : PL) (b : Bool) (e : Ending) (w' : World) : Prop := ∃ g : Nat, e = .returned (.tuple #[.slice (some ⟨g, 0, none⟩) l.length l.length, .bool b, .bool true]) ∧ PrAt (fun _ => True) w' (some ⟨g, 0, none⟩) l ∧ Below W0.heap.size W0 w'
def RContZ (W0 : World) (l : PL) (b : Bool) (e : Ending) (w' : World) : Prop := ∃ u c, e = .returned (.tuple #[.slice u l.length c, .bool b, .bool true]) ∧ PrAt (fun _ => True) w' u l ∧ Below W0.heap.size W0 w'
def SameRel (w3 : World) (n : Nat) (v : Value) (wr : World) : Prop := ∃ j : Nat, v = .int .i64 j ∧ j ≤ n ∧ Below w3.heap.size w3 wr
set_option maxRecDepth 100000 in
set_option maxHeartbeats 2000000 in
theorem same_any (w : World) (bf bm bi : Nat) (F : FamD) (N : Nat) (hN : N ≤ 1048576) (hF : FamIs w bf bm bi F) (ok : OkA N F.abs) (T : Nat → Prop) (Ar Dr : Option Addr) (c d' : Nat) (A0 : AFam) (hr : RFamAt T w Ar Dr (refOf A0)) (he : EqvA F.abs A0) (nd : NdA A0) (pos : PosA A0) :
    Calls Try.prog 28 #[.pointer (some ⟨bf, 0, none⟩), rfamV (refOf A0) Ar c Dr d'] w fun e w' => e = .returned (.bool true) ∧ Below w.heap.size w w' := by
  obtain ⟨W0, hW0⟩ : ∃ W0, W0 = w.alloc (.cells #[.int .u64 (refOf A0).mask, .slice Ar (refOf A0).maps.length c, .slice Dr (refOf A0).walks.length d'] 59) := ⟨_, rfl⟩
  have hb0 : Below w.heap.size w W0 := by rw [hW0]; exact balw (Below.refl _ _) _
  have hk0 : W0.heap[w.heap.size]? = some (.cells #[.int .u64 (refOf A0).mask, .slice Ar (refOf A0).maps.length c, .slice Dr (refOf A0).walks.length d'] 59 (0, 0)) := by rw [hW0]; exact (heap_alloc w _).1
  have hs0 : w.heap.size < W0.heap.size := (Array.getElem?_eq_some_iff.1 hk0).1
  have hlen : (refOf A0).maps.length = F.maps.length := by
    have := he.maps.length_eq
    simp only [FamD.abs, amap, List.length_map] at this
    simp [refOf, this]
  have hcnt : F.maps.length ≤ N := by have := ok.count; simpa [FamD.abs, amap] using this
  have KE : Hid (∀ W, Below W0.heap.size W0 W → W.cell? ⟨w.heap.size, 0, none⟩ = some (.int .u64 (refOf A0).mask) ∧ W.cell? ⟨w.heap.size, 1, none⟩ = some (.slice Ar (refOf A0).maps.length c) ∧ W.cell? ⟨w.heap.size, 2, none⟩ = some (.slice Dr (refOf A0).walks.length d')) := fun W hb => fam_cells ((hb.block _ hs0).trans hk0)
  have hnk : (F.maps.map (·.1)).Nodup := hF.maps.nodup inj_int
  obtain ⟨zs, hzp, hzs⟩ : ∃ zs : List Int, zs.Perm (F.maps.map (·.1)) ∧ zs.Pairwise (fun a b => a ≤ b) := ⟨_, List.mergeSort_perm _ leB, mergeSort_le _⟩
  have hzl : zs.length = F.maps.length := by have := hzp.length_eq; simpa using this
  have HA : Hid (∀ W, Below W0.heap.size W0 W → Calls Try.prog 19 #[.pointer (some ⟨bf, 0, none⟩)] W (HandZ W F.maps.length zs)) := fun W hb => (handles_any W bf bm bi F (hF.below (hb0.trans (hb.mono hb0.size))) (by omega)).mono fun e w' ⟨g, zs', he, h1, h2, h3, h4, h5, h6⟩ => by
    obtain rfl := sorted_same h1 hzp h2 hzs
    exact ⟨g, by rw [he]; simp, h3, h5, h6⟩
  have CO : Hid (∀ W, Below W0.heap.size W0 W → ∀ n d, alook F.maps n = some d → Calls Try.prog 13 #[.pointer (some ⟨bf, 0, none⟩), .int .i64 n] W (ContZ W (sortedOf F.mask d.vals) d.ro)) := fun W hb n d hd => (contents_some W bf bm bi F N (by omega) ok.fam (hF.below (hb0.trans (hb.mono hb0.size))) n d hd).mono fun e w' ⟨v, he, hl⟩ => by
    obtain ⟨g, rfl, h2, h3⟩ := list_pr hl
    exact ⟨g, he, h2.more fun _ _ => trivial, h3⟩
  have hmk : F.mask = A0.mask := he.mask
  have RC : Hid (∀ W, Below W0.heap.size W0 W → ∀ n d, alook F.maps n = some d → Calls Try.prog 46 #[.agg #[.int .u64 (refOf A0).mask, .slice Ar (refOf A0).maps.length c, .slice Dr (refOf A0).walks.length d'], .int .i64 n] W (RContZ W (sortedOf F.mask d.vals) d.ro)) := fun W hb n d hd => (rcont_any T W Ar Dr c d' (refOf A0) (hr.below (hb0.trans (hb.mono hb0.size))) n).mono fun e w' hp => by
    have h1 : alook F.abs.maps n = some d.abs := by rw [show F.abs.maps = amap MapD.abs F.maps from rfl, alook_amap, hd]; rfl
    rw [he.look nd] at h1
    obtain ⟨i, _, hfi⟩ := findM_some (m := A0.mask) h1
    unfold CoPost at hp
    rw [show findM (refOf A0).maps n = some (i, refM A0.mask (n, d.abs)) from hfi] at hp
    obtain ⟨⟨u, cu, e1, e2⟩, e3⟩ := hp
    rw [hmk]
    exact ⟨u, cu, e1, e2.more fun _ _ => trivial, e3⟩
  have hnone : alook F.maps (-1) = none := by
    have h1 : alook F.abs.maps (-1) = none := by rw [he.look nd]; exact pos.none
    rw [show F.abs.maps = amap MapD.abs F.maps from rfl, alook_amap] at h1
    exact Option.map_eq_none_iff.1 h1
  have CN := Lib.hid (fun W (hb : Below W0.heap.size W0 W) => contents_none W bf bm bi F (hF.below (hb0.trans (hb.mono hb0.size))) (-1) hnone)
  have LK : Hid (∀ j x, zs[j]? = some x → ∃ d, alook F.maps x = some d) := fun j x hx => by
    have h1 := hzp.subset (List.mem_of_getElem? hx)
    obtain ⟨p, hp, e⟩ := List.mem_map.1 h1
    exact ⟨p.2, alook_some hnk (k := x) (v := p.2) (by rw [← e]; exact hp)⟩
  have LT : Hid (∀ j x y, zs[j]? = some x → zs[j + 1]? = some y → x < y) := fun j x y hx hy => sorted_lt hzp hnk hzs hx hy
  have LV : Hid (∀ n d, alook F.maps n = some d → (sortedOf F.mask d.vals).length ≤ 1048576) := fun n d hd => by
    rw [sortedOf_length]
    have := ok.lens (n, d.abs) (List.mem_map.2 ⟨(n, d), alook_mem hd, rfl⟩)
    exact Nat.le_trans this hN
  have HB := Lib.hid (Below.refl W0.heap.size W0)
  have BD : Hid (Below W0.heap.size W0 W0.drew) := (Below.refl _ _).drew
  have HW := Lib.hid hW0
  have B0 := Lib.hid hb0
  clear hF he nd pos ok hb0 hk0 hW0 hr hzp hzs hnone hmk hnk
  have hn1 : F.maps.length ≤ 1048576 := by omega
  rw [hlen] at KE RC
  generalize F.maps.length = n at *
  simp only [rfamV]
  rw [hlen] at HW ⊢
  go_enter Try.func28, Try.ntmps28
  go_upto_region 1 with fail
  rw [← HW.out]
  go_region_held3 (fun W => (W.cell? ⟨w.heap.size, 1, none⟩ = some (.slice Ar n c))) (first | exact (KE.out _ BD.out).2.1 | exact (KE.out _ B1.out).2.1) ((go_at_call 19; (refine (HA.out _ BD.out).mono ?_); rintro e w1 ⟨g1, rfl, _, _, hb1⟩; (have B1 := Lib.hid (BD.out.trans (hb1.mono BD.out.size)))))
  have hnn : ((n : Int) != (n : Int)) = false := by simp
  go_wp2_with fail
  refine (HA.out _ B1.out).mono ?_
  rintro e w3 ⟨g3, rfl, hI3, hg3, hb3⟩
  have B3 := Lib.hid (B1.out.trans (hb3.mono B1.out.size))
  have I3 := Lib.hid hI3
  clear hI3 hb3 hnn
  go_wp2_with fail
  go_loopw [26] (fun v26 wr => SameRel w3 n v26 wr) (fun v26 _ => n - (intOf v26).toNat)
  case atStart => exact ⟨0, rfl, by omega, Below.refl _ _⟩
  case round =>
    obtain ⟨j, rfl, hj, hbr⟩ := hrel
    have LR := Lib.hid hbr
    have BR := Lib.hid (B3.out.trans (hbr.mono B3.out.size))
    clear hbr
    by_cases hlt : j < n
    · obtain ⟨x, hx⟩ : ∃ x, zs[j]? = some x := ⟨_, List.getElem?_eq_getElem (by omega)⟩
      obtain ⟨dd, hd⟩ := LK.out j x hx
      have q0 := (LR.out.cell (p := ⟨g3, j, none⟩) hg3).trans (I3.out j x hx)
      have hj0 : (0 : Int) ≤ j := by omega
      have hj1 : (j : Int) < n := by omega
      have HX := Lib.hid hx
      have HD := Lib.hid hd
      clear hx hd
      go_wp2_with fail
      refine (CO.out _ BR.out x dd HD.out).mono ?_
      rintro e w4 ⟨g4, rfl, hp4, hb4⟩
      have B4 := Lib.hid (BR.out.trans (hb4.mono BR.out.size))
      have L4 := Lib.hid (LR.out.trans (hb4.mono LR.out.size))
      have P4 := Lib.hid hp4
      obtain ⟨y0, y1, y2⟩ := KE.out _ B4.out
      clear hb4 hp4
      go_wp2_with fail
      refine (RC.out _ B4.out x dd HD.out).mono ?_
      rintro e w5 ⟨u5, c5, rfl, hp5, hb5⟩
      have B5 := Lib.hid (B4.out.trans (hb5.mono B4.out.size))
      have L5 := Lib.hid (L4.out.trans (hb5.mono L4.out.size))
      have QQ := Lib.hid (req_any (fun _ => True) (fun _ => True) w5 (some ⟨g4, 0, none⟩) u5 (sortedOf F.mask dd.vals).length c5 (sortedOf F.mask dd.vals) (sortedOf F.mask dd.vals) (P4.out.keep (Kept.of_below hb5)) hp5 (Nat.le_trans (LV.out x dd HD.out) (by omega)) (Nat.le_trans (LV.out x dd HD.out) (by omega)))
      clear hp5 hb5 y0 y1 y2 q0
      have hro : (dd.ro != dd.ro) = false := by simp
      have hde : decide (sortedOf F.mask dd.vals = sortedOf F.mask dd.vals) = true := by simp
      rw [hde] at QQ
      clear hde
      generalize sortedOf F.mask dd.vals = l at *
      generalize dd.ro = br at *
      by_cases hj2 : j = 0
      · subst hj2
        go_wp2_with fail
        refine QQ.out.mono ?_
        rintro e w6 ⟨rfl, hb6⟩
        have B6 := Lib.hid (B5.out.trans (hb6.mono B5.out.size))
        have L6 := Lib.hid (L5.out.trans (hb6.mono L5.out.size))
        clear hb6
        go_wp2_with fail
        go_roundw
        case rel => exact ⟨1, by go_num, by omega, L6.out⟩
        case measure => simp [intOf]; omega
      · obtain ⟨y, hy⟩ : ∃ y, zs[j - 1]? = some y := ⟨_, List.getElem?_eq_getElem (by omega)⟩
        have hxy := LT.out (j - 1) y x hy (by rw [show j - 1 + 1 = j by omega]; exact HX.out)
        have hja : (1 : Int) ≤ j := by omega
        have hjb : (j : Int) - 1 < n := by omega
        have hjc : (0 : Int) < j := by omega
        have HY := Lib.hid hy
        clear hy
        go_wp2_with fail
        refine QQ.out.mono ?_
        rintro e w6 ⟨rfl, hb6⟩
        have B6 := Lib.hid (B5.out.trans (hb6.mono B5.out.size))
        have L6 := Lib.hid (L5.out.trans (hb6.mono L5.out.size))
        clear hb6
        go_wp2_with fail
        refine (HA.out _ B6.out).mono ?_
        rintro e w7 ⟨g7, rfl, hI7, hg7, hb7⟩
        have q7 := hI7 (j - 1) y HY.out
        have L7 := Lib.hid (L6.out.trans (hb7.mono L6.out.size))
        clear hI7 hb7
        go_wp2_with fail
        go_roundw
        case rel => exact ⟨j + 1, by go_num, by omega, L7.out⟩
        case measure => simp [intOf]; omega
    · go_wp2_with fail
      refine (CN.out _ BR.out).mono ?_
      rintro e w4 ⟨rfl, hb4⟩
      go_wp2_with fail
      go_ret
      exact ⟨rfl, B0.out.trans ((BR.out.trans (hb4.mono BR.out.size)).mono B0.out.size)⟩
end Go.Proofs.Ytagfghihnkkfiaa
