/- The walk of package model's Equal. -/
import Derived.Test.YtagfghihnkkfiaaMEq
import Derived.Test.YtagfghihnkkfiaaRApA
import Derived.Deep.RegionHeld3
namespace Go.Proofs.Ytagfghihnkkfiaa
set_option linter.unusedVariables false
set_option linter.unusedSimpArgs false
open Go Go.RowKit Go.MapKept
/-- a family's comparison, over families in memory -/
def mapEqD (G : FamD) (p : Int × MapD) : Bool :=
  match alook G.maps p.1 with
  | none => false
  | some d => p.2.ro == d.ro && mapsEqB intEq p.2.vals d.vals
def eqD (F G : FamD) : Bool := F.mask == G.mask && (F.maps.length == G.maps.length && (mapsEqB itEq F.iters G.iters && F.maps.all (mapEqD G)))
def eqmD (a b : MapD) : Bool := a.ro == b.ro && mapsEqB intEq a.vals b.vals
theorem mapEqD_val (G : FamD) : mapEqD G = valEq eqmD G.maps := by
  funext p
  unfold mapEqD valEq eqmD
  cases alook G.maps p.1 <;> rfl
theorem eqD_abs (F G : FamD) : eqD F G = eqA F.abs G.abs := by
  unfold eqD eqA
  have h : F.maps.all (mapEqD G) = F.abs.maps.all (mapEqA G.abs) := by
    have e : F.abs.maps = F.maps.map (fun p => (p.1, p.2.abs)) := rfl
    rw [e, List.all_map]
    congr 1
    funext p
    have e2 : alook G.abs.maps p.1 = (alook G.maps p.1).map MapD.abs := alook_amap MapD.abs G.maps p.1
    unfold mapEqD mapEqA Function.comp
    simp only [e2]
    cases alook G.maps p.1 <;> rfl
  rw [h]
  unfold FamD.abs
  simp [amap]
/-- sizes of a family -/
structure FamLe (F : FamD) : Prop where
  maps : F.maps.length ≤ 1099511627776
  iters : F.iters.length ≤ 1099511627776
  vals : ∀ p ∈ F.maps, p.2.vals.length ≤ 1099511627776
set_option maxRecDepth 100000 in
set_option maxHeartbeats 2000000 in
theorem meqf_any (w : World) (bf bm bi cf cm ci : Nat) (F G : FamD) (h : FamIs w bf bm bi F) (h' : FamIs w cf cm ci G) (hF : FamLe F) (hG : FamLe G) :
    Calls Try.prog 25 #[.pointer (some ⟨bf, 0, none⟩), .pointer (some ⟨cf, 0, none⟩)] w fun e w' => e = .returned (.bool (eqD F G)) ∧ Below w.heap.size w w' := by
  obtain ⟨c0, c1, c2⟩ := h.cell
  obtain ⟨d0, d1, d2⟩ := h'.cell
  have hlf := h.lt (k := bf) (Or.inl rfl)
  have hlm := h.lt (k := bm) (Or.inr (Or.inl rfl))
  have hlf' := h'.lt (k := cf) (Or.inl rfl)
  have hlm' := h'.lt (k := cm) (Or.inr (Or.inl rfl))
  have hn := h.maps.nodup inj_int
  obtain ⟨es, clock, hb, hst, hel, hen, hne⟩ := map_entry h.maps
  have KEEP : Hid (∀ W, Below w.heap.size w W → (W.cell? ⟨bf, 0, none⟩ = some (.int .u64 F.mask) ∧ W.cell? ⟨bf, 1, none⟩ = some (.map (some bm)) ∧ W.cell? ⟨bf, 2, none⟩ = some (.map (some bi))) ∧ (W.cell? ⟨cf, 0, none⟩ = some (.int .u64 G.mask) ∧ W.cell? ⟨cf, 1, none⟩ = some (.map (some cm)) ∧ W.cell? ⟨cf, 2, none⟩ = some (.map (some ci))) ∧
      (∀ ty, (Builtin.len_ #[75] ty #[.map (some bm)]).run Try.prog W = .ok (.int .i64 F.maps.length) W) ∧ (∀ ty, (Builtin.len_ #[75] ty #[.map (some cm)]).run Try.prog W = .ok (.int .i64 G.maps.length) W)) := fun W hb =>
    ⟨⟨(hb.cell (p := ⟨bf, _, none⟩) hlf).trans c0, (hb.cell (p := ⟨bf, _, none⟩) hlf).trans c1, (hb.cell (p := ⟨bf, _, none⟩) hlf).trans c2⟩, ⟨(hb.cell (p := ⟨cf, _, none⟩) hlf').trans d0, (hb.cell (p := ⟨cf, _, none⟩) hlf').trans d1, (hb.cell (p := ⟨cf, _, none⟩) hlf').trans d2⟩,
      fun ty => MapIs.len (P := Try.prog) Try.underlying75 (h.maps.of_block (hb.block bm hlm)) ty, fun ty => MapIs.len (P := Try.prog) Try.underlying75 (h'.maps.of_block (hb.block cm hlm')) ty⟩
  have IE := Lib.hid (fun W (hb : Below w.heap.size w W) => (meq_itr W bi ci F.iters G.iters (h.iters.of_block (hb.block bi (h.lt (Or.inr (Or.inr (Or.inl rfl)))))) (h'.iters.of_block (hb.block ci (h'.lt (Or.inr (Or.inr (Or.inl rfl)))))) hF.iters hG.iters).mono fun e w' p => lift_below hb p)
  have HH := Lib.hid h
  have HG := Lib.hid h'
  have FL := Lib.hid hF
  have GL := Lib.hid hG
  have HN := Lib.hid hn
  have EN := Lib.hid hen
  have NE := Lib.hid hne
  have ST := Lib.hid hst
  have HB := Lib.hid hb
  have EL := Lib.hid hel
  have hm1 := hF.maps
  have hm2 := hG.maps
  have UE := Lib.hid (show eqD F G = (F.mask == G.mask && (F.maps.length == G.maps.length && (mapsEqB itEq F.iters G.iters && F.maps.all (mapEqD G)))) from rfl)
  clear h h' hF hG hn hen hne hst hb hel c0 c1 c2 d0 d1 d2
  have BD : Hid (Below w.heap.size w w.drew) := (Below.refl _ _).drew
  go_enter Try.func25, Try.ntmps25
  go_upto_region 1 with fail
  cases em : (F.mask == G.mask) with
  | false =>
    have R := Lib.hid (UE.out.trans (by rw [em]; try rfl : _ = false))
    have em' : (F.mask != G.mask) = true := by simp [bne, em]
    clear em
    refine wp_region_class (C := fun W => Below w.heap.size w W) (by kernel_rfl) (by kernel_rfl) BD.out ?_
    repeat (first | go_big_quiet_step (fail) | (refine' wpQuiet_take (by rfl) (fun W hW => ?_) ?_; rotate_left; (obtain ⟨⟨y0, y1, y2⟩, ⟨z0, z1, z2⟩, l1, l2⟩ := KEEP.out W hW); go_simp; (first | rfl | (with_reducible exact IE.out _ hW)); (simp only [Act.put, List.setIfInBounds_toArray, List.set_cons_zero, List.set_cons_succ])) | ((refine wpQuiet_skip (by rfl) ?_); (simp only [Act.put, List.setIfInBounds_toArray, List.set_cons_zero, List.set_cons_succ])))
    refine wpQuiet_nil ?_
    intro w2 hb2
    go_wp2_with fail
    go_ret
    exact ⟨ret_bool R.out.symm, hb2⟩
  | true =>
    have em' : (F.mask != G.mask) = false := by simp [bne, em]
    by_cases el : F.maps.length = G.maps.length
    case neg =>
      have R := Lib.hid (UE.out.trans (by rw [em, show (F.maps.length == G.maps.length) = false by simpa using el]; try rfl : _ = false))
      have el' : ((F.maps.length : Int) != (G.maps.length : Int)) = true := by (simp <;> omega)
      clear em el
      refine wp_region_class (C := fun W => Below w.heap.size w W) (by kernel_rfl) (by kernel_rfl) BD.out ?_
      repeat (first | go_big_quiet_step (fail) | (refine' wpQuiet_take (by rfl) (fun W hW => ?_) ?_; rotate_left; (obtain ⟨⟨y0, y1, y2⟩, ⟨z0, z1, z2⟩, l1, l2⟩ := KEEP.out W hW); go_simp; (first | rfl | (with_reducible exact IE.out _ hW)); (simp only [Act.put, List.setIfInBounds_toArray, List.set_cons_zero, List.set_cons_succ])) | ((refine wpQuiet_skip (by rfl) ?_); (simp only [Act.put, List.setIfInBounds_toArray, List.set_cons_zero, List.set_cons_succ])))
      refine wpQuiet_nil ?_
      intro w2 hb2
      go_wp2_with fail
      go_ret
      exact ⟨ret_bool R.out.symm, hb2⟩
    have el' : ((F.maps.length : Int) != (G.maps.length : Int)) = false := by (simp <;> omega)
    cases ei : mapsEqB itEq F.iters G.iters with
    | false =>
      have R := Lib.hid (UE.out.trans (by rw [em, show (F.maps.length == G.maps.length) = true by simpa using el, ei]; try rfl : _ = false))
      rw [ei] at IE
      clear em el ei
      refine wp_region_class (C := fun W => Below w.heap.size w W) (by kernel_rfl) (by kernel_rfl) BD.out ?_
      repeat (first | go_big_quiet_step (fail) | (refine' wpQuiet_take (by rfl) (fun W hW => ?_) ?_; rotate_left; (obtain ⟨⟨y0, y1, y2⟩, ⟨z0, z1, z2⟩, l1, l2⟩ := KEEP.out W hW); go_simp; (first | rfl | (with_reducible exact IE.out _ hW)); (simp only [Act.put, List.setIfInBounds_toArray, List.set_cons_zero, List.set_cons_succ])) | ((refine wpQuiet_skip (by rfl) ?_); (simp only [Act.put, List.setIfInBounds_toArray, List.set_cons_zero, List.set_cons_succ])))
      refine wpQuiet_nil ?_
      intro w2 hb2
      go_wp2_with fail
      go_ret
      exact ⟨ret_bool R.out.symm, hb2⟩
    | true =>
      have R0 := Lib.hid (UE.out.trans (by rw [em, show (F.maps.length == G.maps.length) = true by simpa using el, ei]; try rfl : _ = F.maps.all (mapEqD G)))
      rw [ei] at IE
      clear em el ei UE
      refine wp_region_class (C := fun W => Below w.heap.size w W) (by kernel_rfl) (by kernel_rfl) BD.out ?_
      repeat (first | go_big_quiet_step (fail) | (refine' wpQuiet_take (by rfl) (fun W hW => ?_) ?_; rotate_left; (obtain ⟨⟨y0, y1, y2⟩, ⟨z0, z1, z2⟩, l1, l2⟩ := KEEP.out W hW); go_simp; (first | rfl | (with_reducible exact IE.out _ hW)); (simp only [Act.put, List.setIfInBounds_toArray, List.set_cons_zero, List.set_cons_succ])) | ((refine wpQuiet_skip (by rfl) ?_); (simp only [Act.put, List.setIfInBounds_toArray, List.set_cons_zero, List.set_cons_succ])))
      refine wpQuiet_nil ?_
      intro w2 hb2
      have B2 := Lib.hid hb2
      have hr := range_map Try.underlying75 ((hb2.block bm hlm).trans HB.out)
      have HB2 := Lib.hid ((hb2.block bm hlm).trans HB.out)
      obtain ⟨⟨y0, y1, y2⟩, ⟨z0, z1, z2⟩, l1, l2⟩ := KEEP.out w2 hb2
      have hs2 := hb2.size
      clear hb2 em' el' IE l1 l2
      go_wp2_with fail
      clear hr y0 y1 y2 z0 z1 z2
      go_loopg [] F.maps.length (fun k wr => MeqRel w bm w2.heap.size es clock (GoodE (Value.int .i64) eqmD F.maps G.maps) k wr)
      case atStart => exact ⟨[], es.toList, EL.out.symm, by simp, IterIs.start HB2.out ST.out, by simp, B2.out.alloc B2.out.size _⟩
      case round =>
        obtain ⟨done, rem, hk, hperm, hiter, hgood, hbw⟩ := hrel
        have hbd : (es.toList.map (·.born)).Nodup := ST.out.2.1
        rcases hiter.next (P := Try.prog) 0 with ⟨hnil, hrun⟩ | ⟨e, w3, he, hrun, hent, hit3, ht3⟩
        · subst hnil
          have R := Lib.hid (R0.out.trans (by rw [mapEqD_val]; exact meq_end inj_int HN.out NE.out (by simpa using hperm) hgood : _ = true))
          have BW := Lib.hid hbw
          clear hiter hperm hgood hbw hk hbd
          go_wp2_with fail
          go_ret
          exact ⟨ret_bool R.out.symm, BW.out⟩
        · have hmem : e ∈ es.toList := hperm.subset (List.mem_append_right _ he)
          obtain ⟨⟨x, ⟨pr, pv, po⟩⟩, hp, hkey, hval⟩ := EN.out e hmem
          simp only [mapV] at hkey hval
          have hnd : (rem.map (·.born)).Nodup := by
            have := (hperm.map (·.born)).nodup_iff.2 hbd
            rw [List.map_append] at this
            exact (List.nodup_append.1 this).2.1
          have hps := perm_strike hnd he
          have hb3 := turned_below hbw ht3 hs2
          have hit : w2.heap.size < w3.heap.size := by
            obtain ⟨seen, q1, _⟩ := hit3
            exact (Array.getElem?_eq_some_iff.1 q1).1
          have hrl : rem.length = (rem.filter (fun y => y.born != e.born)).length + 1 := by rw [← hps.length_eq]; simp
          have hlook := ((HG.out.maps.of_block (hb3.block cm hlm')).alloc (.cells #[.map (some pr), .bool po] 74)).lookup (P := Try.prog) key_int inj_int Try.underlying75 Try.underlying3 (z := .agg #[.map none, .bool false]) (by kernel_rfl) x true
          obtain ⟨⟨y0, y1, y2⟩, ⟨z0, z1, z2⟩, _, _⟩ := KEEP.out w3 hb3
          have a1 : cf < w3.heap.size := Nat.lt_of_lt_of_le hlf' hb3.size
          have PP := Lib.hid (And.intro hperm hps)
          have GG := Lib.hid hgood
          have II := Lib.hid hit3
          have BB := Lib.hid hb3
          have KK := Lib.hid hk
          have RL := Lib.hid hrl
          have HP := Lib.hid hp
          have HKY := Lib.hid hkey
          rw [hkey, hval] at hrun
          rw [hkey, hval] at hent
          simp only [if_true] at hlook
          clear hiter hperm hgood hbw hk hbd hmem hkey hval hnd hps hb3 hrl hp ht3 hit3 y0 y1 y2 z0 z2
          cases hf : alook G.maps x with
          | none =>
            rw [hf] at hlook
            have R := Lib.hid (R0.out.trans (by rw [mapEqD_val]; exact List.all_eq_false.2 ⟨_, HP.out, by unfold valEq; simp only [hf]; simp⟩ : _ = false))
            simp only [outOf, Option.isSome_none] at hlook
            clear hf he
            go_wp2_with fail
            go_ret
            exact ⟨ret_bool R.out.symm, (BB.out.alloc BB.out.size _).alloc (by have := BB.out.size; simp; omega) _⟩
          | some d =>
            obtain ⟨dr, dv, dq⟩ := d
            rw [hf] at hlook
            simp only [outOf, Option.isSome_some, mapV] at hlook
            have VE := Lib.hid (show valEq eqmD G.maps (x, ⟨pr, pv, po⟩) = (po == dq && mapsEqB intEq pv dv) by unfold valEq; simp only [hf]; rfl)
            have hv1 := HH.out.vals _ HP.out
            have hv2 := HG.out.vals _ (alook_mem hf)
            have n1 := FL.out.vals _ HP.out
            have n2 := GL.out.vals _ (alook_mem hf)
            simp only at hv1 hv2 n1 n2
            have MS := Lib.hid (fun W (hb : Below w.heap.size w W) => meq_str W pr dr pv dv (hv1.of_block (hb.block pr hv1.lt)) (hv2.of_block (hb.block dr hv2.lt)) n1 n2)
            have B5 : Hid (Below w.heap.size w ((w3.alloc (.cells #[.map (some pr), .bool po] 74)).alloc (.cells #[.map (some dr), .bool dq] 74))) := (BB.out.alloc BB.out.size _).alloc (by have := BB.out.size; simp; omega) _
            clear hf he hv1 hv2 n1 n2
            cases po with
            | false =>
              cases dq with
              | false =>
                go_wp2_with fail
                refine (MS.out _ B5.out).mono ?_
                rintro e6 w6 ⟨rfl, hb6⟩
                have B6 := Lib.hid (B5.out.trans (hb6.mono B5.out.size))
                have L6 := Lib.hid hb6
                clear hb6
                cases hv : mapsEqB intEq pv dv with
                | false =>
                  have R := Lib.hid (R0.out.trans (by rw [mapEqD_val]; exact List.all_eq_false.2 ⟨_, HP.out, by rw [VE.out, hv]; simp⟩ : _ = false))
                  clear hv
                  go_wp2_with fail
                  go_ret
                  exact ⟨ret_bool R.out.symm, B6.out⟩
                | true =>
                  have G := Lib.hid (show GoodE (Value.int .i64) eqmD F.maps G.maps e from ⟨_, HP.out, HKY.out, VE.out.trans (by rw [hv]; rfl)⟩)
                  clear hv
                  go_wp2_with fail
                  go_roundg (rem.filter (fun y => y.born != e.born)).length
                  case measure => rw [KK.out, RL.out]; omega
                  case rel =>
                    have bb : ∀ q, q < w3.heap.size → w6.heap[q]? = w3.heap[q]? := fun q hq => (L6.out.block q (by simp; omega)).trans ((Below.heap_alloc _ _ _ (by simp; omega)).trans (Below.heap_alloc _ _ _ hq))
                    refine ⟨done ++ [e], _, rfl, ?_, II.out.of_blocks (bb _ hit) (bb _ (Nat.lt_of_lt_of_le hlm BB.out.size)), fun e' he' => ?_, B6.out⟩
                    · have := PP.out
                      rw [List.append_assoc]
                      exact (List.Perm.append_left done this.2).trans this.1
                    · rcases List.mem_append.1 he' with he' | he'
                      · exact GG.out e' he'
                      · rw [List.mem_singleton.1 he']
                        exact G.out
              | true =>
                have R := Lib.hid (R0.out.trans (by rw [mapEqD_val]; exact List.all_eq_false.2 ⟨_, HP.out, by rw [VE.out]; simp⟩ : _ = false))
                go_wp2_with fail
                go_ret
                exact ⟨ret_bool R.out.symm, B5.out⟩
            | true =>
              cases dq with
              | false =>
                have R := Lib.hid (R0.out.trans (by rw [mapEqD_val]; exact List.all_eq_false.2 ⟨_, HP.out, by rw [VE.out]; simp⟩ : _ = false))
                go_wp2_with fail
                go_ret
                exact ⟨ret_bool R.out.symm, B5.out⟩
              | true =>
                go_wp2_with fail
                refine (MS.out _ B5.out).mono ?_
                rintro e6 w6 ⟨rfl, hb6⟩
                have B6 := Lib.hid (B5.out.trans (hb6.mono B5.out.size))
                have L6 := Lib.hid hb6
                clear hb6
                cases hv : mapsEqB intEq pv dv with
                | false =>
                  have R := Lib.hid (R0.out.trans (by rw [mapEqD_val]; exact List.all_eq_false.2 ⟨_, HP.out, by rw [VE.out, hv]; simp⟩ : _ = false))
                  clear hv
                  go_wp2_with fail
                  go_ret
                  exact ⟨ret_bool R.out.symm, B6.out⟩
                | true =>
                  have G := Lib.hid (show GoodE (Value.int .i64) eqmD F.maps G.maps e from ⟨_, HP.out, HKY.out, VE.out.trans (by rw [hv]; rfl)⟩)
                  clear hv
                  go_wp2_with fail
                  go_roundg (rem.filter (fun y => y.born != e.born)).length
                  case measure => rw [KK.out, RL.out]; omega
                  case rel =>
                    have bb : ∀ q, q < w3.heap.size → w6.heap[q]? = w3.heap[q]? := fun q hq => (L6.out.block q (by simp; omega)).trans ((Below.heap_alloc _ _ _ (by simp; omega)).trans (Below.heap_alloc _ _ _ hq))
                    refine ⟨done ++ [e], _, rfl, ?_, II.out.of_blocks (bb _ hit) (bb _ (Nat.lt_of_lt_of_le hlm BB.out.size)), fun e' he' => ?_, B6.out⟩
                    · have := PP.out
                      rw [List.append_assoc]
                      exact (List.Perm.append_left done this.2).trans this.1
                    · rcases List.mem_append.1 he' with he' | he'
                      · exact GG.out e' he'
                      · rw [List.mem_singleton.1 he']
                        exact G.out
end Go.Proofs.Ytagfghihnkkfiaa
