/- The walk of the reference's Check. -/
import Derived.Test.YtpabdmcbahmjnaaGreatMA3
import Derived.Test.YtpabdmcbahmjnaaGreatMA2
namespace Go.Proofs.YtpabdmcbahmjnaaGreat
open Go Go.RowKit Go.MapKept
set_option linter.unusedSimpArgs false
set_option linter.unusedVariables false
def lens (ts : List (List OpD)) : List Nat := ts.map (·.length)
theorem lens_get {ts : List (List OpD)} {i : Nat} {t : List OpD} (h : ts[i]? = some t) : (lens ts)[i]? = some t.length := by simp [lens, h]
theorem lens_len (ts : List (List OpD)) : (lens ts).length = ts.length := by simp [lens]
structure ThrFit (ts : List (List OpD)) : Prop where
 len : ts.length ≤ 4611686018427387904
 each : ∀ t ∈ ts, t.length ≤ 4611686018427387904
structure EvsFit (l : List EvD) : Prop where
 len : l.length ≤ 1048576
 thread : ∀ e ∈ l, I64 e.thread
 index : ∀ e ∈ l, I64 e.index
 res : ∀ e ∈ l, e.res.Fit
def SmallTo (ts : List (List OpD)) (i : Value) : Prop := ∃ j : Nat, j ≤ ts.length ∧ i = .int .i64 j ∧ ∀ k t, k < j → ts[k]? = some t → t.length ≤ 16
theorem big_of {ts : List (List OpD)} {i : Nat} {t : List OpD} (h : ts[i]? = some t) (hb : 16 < t.length) : BigP (lens ts) := Or.inr ⟨t.length, List.mem_of_getElem? (lens_get h), hb⟩
theorem small_of {ts : List (List OpD)} (h8 : ¬ 8 < ts.length) (h : ∀ k t, k < ts.length → ts[k]? = some t → t.length ≤ 16) : ¬ BigP (lens ts) := by
 rintro (hb | ⟨n, hn, hb⟩)
 ·rw [lens_len] at hb; exact h8 hb
 ·obtain ⟨t, ht, rfl⟩ := List.mem_map.1 hn
  obtain ⟨k, hk, e⟩ := List.getElem_of_mem ht
  have := h k t hk (by rw [List.getElem?_eq_getElem hk, e])
  omega
def intCells (cs : List Nat) : List Value := cs.map fun c : Nat => Value.int .i64 (c : Int)
theorem made_zeros (k : Nat) : (madeCells (Value.int .i64 0).cells (k * 1)) = (intCells (List.replicate k 0)).toArray := by
 have hC : (Value.int .i64 0).cells = #[Value.int .i64 0] := rfl
 rw [hC]
 apply Array.ext'
 apply List.ext_getElem?
 intro i
 by_cases hi : i < k
 ·simp [madeCells, intCells, hi, Nat.mod_one]
 ·simp [madeCells, intCells, hi]
theorem intInfo : (Tryz.prog.info? 3).map (fun i => (i.zero, i.size, i.bytes)) = some (some (.int .i64 0), 1, 8) := by kernel_rfl
theorem make_ints (k : Nat) (hk : k ≤ 1048576) (W : World) : (Instr.makeSlice 22 (.int .i64 (k : Int)) (.int .i64 (k : Int))).run Tryz.prog W = .ok (.slice (some ⟨W.heap.size, 0, none⟩) k k) (W.alloc (.cells (intCells (List.replicate k 0)).toArray 3)) := by
 obtain ⟨i0, hi, hz0, hz1, hz2⟩ := info_parts3 intInfo
 have hr := run_make (P := Tryz.prog) W 22 3 i0 _ Tryz.underlying22 hi hz0 .i64 .i64 k k (by omega) (Int.le_refl _) (by rw [hz2]; omega) (by omega)
 simp only [Int.toNat_natCast] at hr
 rw [hz1, made_zeros] at hr
 exact hr
theorem int_cell {W : World} {b : Nat} {cs : List Nat} {T : TypeId} (h : W.heap[b]? = some (.cells (intCells cs).toArray T (0, 0))) {i c : Nat} (hc : cs[i]? = some c) : W.cell? ⟨b, i, none⟩ = some (.int .i64 c) := by
 have := blk_cell h i
 rw [this]
 simp [intCells, hc]
theorem cells_set {w : World} {k j : Nat} {cs : Array Value} {t : TypeId} {f : Nat × Nat} (h : w.heap[k]? = some (.cells cs t f)) (u : Value) : (w.setCell ⟨k, j, none⟩ u).heap[k]? = some (.cells (cs.setIfInBounds j u) t f) := by
 rw [setCell_eq_setRow w k j cs t f u h]
 exact setRow_heap w k _ _ t _ h
theorem int_store {W : World} {b : Nat} {cs : List Nat} {T : TypeId} {f : Nat × Nat} (h : W.heap[b]? = some (.cells (intCells cs).toArray T f)) (i c : Nat) : (W.setCell ⟨b, i, none⟩ (.int .i64 (c : Int))).heap[b]? = some (.cells (intCells (cs.set i c)).toArray T f) := by
 rw [cells_set h]
 simp [intCells, List.map_set]
theorem res_zero_of {r : ResF} (h1 : r.err = 0) (h2 : ¬ r.found = true) (h3 : r.value = 0) (h4 : r.key.toList = []) (h5 : r.count = 0) (h6 : r.ref = 0) (h7 : r.root = 0) (h8 : ¬ r.ro = true) : r = ResF.zero := by
 obtain ⟨a, b, c, d, e, f, g, h⟩ := r
 simp only at h1 h2 h3 h4 h5 h6 h7 h8
 subst h1 h3 h5 h6 h7
 have hb : b = false := by simpa using h2
 have hh : h = false := by simpa using h8
 have hd : d = ⟨#[]⟩ := bytes_ext _ _ (by rw [h4]; unfold ByteArray.toList ByteArray.toList.loop; simp [ByteArray.size])
 subst hb hh hd
 rfl
def RkRel (w : World) (n : Nat) (ops : List Nat) (l : List EvD) (i : Value) (wr : World) : Prop :=
 ∃ j : Nat, j ≤ l.length ∧ i = .int .i64 j ∧ (∀ k e, k < j → l[k]? = some e → EvOk ops l k e) ∧ wr.heap[w.heap.size]? = some (.cells (intCells (cnts n l j)).toArray 3 (0, 0)) ∧ Below w.heap.size w wr
set_option maxRecDepth 100000 in
set_option maxHeartbeats 2000000 in
theorem rcheck_any (w : World) (A B : Option Addr) (c d : Nat) (ts : List (List OpD)) (l : List EvD) (hA : ThrAt w A ts) (hB : EvsAt w B l) (ft : ThrFit ts) (fe : EvsFit l) :
  Calls Tryz.prog 33 #[.slice A ts.length c, .slice B l.length d] w fun e w' => e = .returned (.int .i64 (checkP (lens ts) l)) ∧ Below w.heap.size w w' := by
 have HA := Lib.hid hA
 have HB := Lib.hid hB
 have FE := Lib.hid fe
 have hl1 := ft.len
 have hl2 := fe.len
 have hl3 := ft.each
 have HE := Lib.hid hl3
 clear hA hB ft fe hl3
 by_cases h8 : 8 < ts.length
 ·have R := Lib.hid (check_big (l := l) (ops := lens ts) (Or.inl (by rw [lens_len]; exact h8)))
  go_enter Tryz.func33, Tryz.ntmps33
  go_wp2_with fail
  go_ret
  exact ⟨ret_int R.out.symm, Below.refl _ _⟩
 go_enter Tryz.func33, Tryz.ntmps33
 go_wp2_with fail
 go_loop [5] (fun i => SmallTo ts i) (fun i => ts.length - (intOf i).toNat)
 case atStart => exact ⟨0, by omega, rfl, fun k x hk => by omega⟩
 case round =>
  obtain ⟨j, hj, rfl, hne⟩ := hrel
  have NE := Lib.hid hne
  clear hne
  by_cases hlt : j < ts.length
  ·obtain ⟨t, ht⟩ : ∃ t, ts[j]? = some t := ⟨_, List.getElem?_eq_getElem hlt⟩
   obtain ⟨b, off, rfl, hb, hc⟩ := HA.out (by omega)
   obtain ⟨u, cu, c0, _⟩ := hc j t ht
   have hj0 : (0 : Int) ≤ j := by omega
   have hj1 : (j : Int) < ts.length := by omega
   have htl := HE.out t (List.mem_of_getElem? ht)
   have HX := Lib.hid ht
   clear ht hc
   by_cases hn : 16 < t.length
   ·have R := Lib.hid (check_big (l := l) (big_of HX.out hn))
    go_wp2_with fail
    go_ret
    exact ⟨ret_int R.out.symm, Below.refl _ _⟩
   ·go_wp2_with fail
    go_round
    case rel =>
     refine ⟨j + 1, by omega, by go_num, fun k y hk hy => ?_⟩
     by_cases hkj : k = j
     ·subst hkj
      rw [HX.out] at hy
      obtain rfl := Option.some.inj hy
      omega
     ·exact NE.out k y (by omega) hy
    case measure => simp [intOf]; omega
  ·have SM := Lib.hid (small_of h8 fun k t hk ht => NE.out k t (by omega) ht)
   have hmk := make_ints ts.length (by omega)
   have z0 : 0 ≤ w.heap.size := Nat.zero_le _
   go_wp2_with fail
   clear hmk
   obtain ⟨W0, hW0⟩ : ∃ W0, W0 = w.alloc (.cells (intCells (List.replicate ts.length 0)).toArray 3) := ⟨_, rfl⟩
   have B0 : Hid (Below w.heap.size w W0) := by rw [hW0]; exact (Below.refl w.heap.size w).alloc (Nat.le_refl _) _
   have C0 : Hid (W0.heap[w.heap.size]? = some (.cells (intCells (cnts ts.length l 0)).toArray 3 (0, 0))) := by rw [hW0, cnts_zero]; exact (heap_alloc w _).1
   rw [← hW0]
   clear hW0
   go_loopw [7] (fun i wr => RkRel w ts.length (lens ts) l i wr) (fun i _ => l.length - (intOf i).toNat)
   case atStart => exact ⟨0, by omega, rfl, fun k e hk => by omega, C0.out, B0.out⟩
   case round =>
    obtain ⟨j, hj, rfl, hok, hcs, hbr⟩ := hrel
    have OK := Lib.hid hok
    have CS := Lib.hid hcs
    have BR := Lib.hid hbr
    clear hok hcs hbr
    by_cases hlt : j < l.length
    ·obtain ⟨e, hx⟩ : ∃ e, l[j]? = some e := ⟨_, List.getElem?_eq_getElem hlt⟩
     obtain ⟨b, off, rfl, hb, hc⟩ := (HB.out.below BR.out) (by omega)
     have hmem := List.mem_of_getElem? hx
     have ft := FE.out.thread e hmem
     have fi := FE.out.index e hmem
     have fr := Lib.hid (FE.out.res e hmem)
     have e0 := hc j e hx 0 _ rfl
     have e1 := hc j e hx 1 _ rfl
     have e2 := hc j e hx 2 _ rfl
     have f0 := hc j e hx 3 _ rfl
     have f1 := hc j e hx 4 _ rfl
     have f2 := hc j e hx 5 _ rfl
     have f3 := hc j e hx 6 _ rfl
     have f4 := hc j e hx 7 _ rfl
     have f5 := hc j e hx 8 _ rfl
     have f6 := hc j e hx 9 _ rfl
     have f7 := hc j e hx 10 _ rfl
     simp only [Nat.add_zero] at e0
     have hj0 : (0 : Int) ≤ j := by omega
     have hj1 : (j : Int) < l.length := by omega
     have HX := Lib.hid hx
     clear hx hc hmem
     unfold I64 at ft fi
     by_cases t0 : e.thread < 0
     ·have R : Hid (checkP (lens ts) l = 1) := check_bad SM.out fun hp => by have := (hp j e HX.out).t0; omega
      clear f0 f1 f2 f3 f4 f5 f6 f7 e1 e2
      go_wp2_with fail
      go_ret
      exact ⟨ret_int R.out.symm, BR.out⟩
     by_cases t1 : ts.length ≤ e.thread
     ·have R : Hid (checkP (lens ts) l = 1) := check_bad SM.out fun hp => by have := (hp j e HX.out).t1; rw [lens_len] at this; omega
      clear f0 f1 f2 f3 f4 f5 f6 f7 e1 e2
      go_wp2_with fail
      go_ret
      exact ⟨ret_int R.out.symm, BR.out⟩
     obtain ⟨th, ix, rt, rs⟩ := e
     simp only at e0 e1 e2 f0 f1 f2 f3 f4 f5 f6 f7 t0 t1 ft fi fr
     obtain ⟨t, rfl⟩ : ∃ t : Nat, th = t := ⟨th.toNat, by omega⟩
     have tl : t < ts.length := by omega
     obtain ⟨tt, htt⟩ : ∃ tt, ts[t]? = some tt := ⟨_, List.getElem?_eq_getElem tl⟩
     obtain ⟨a, offA, rfl, ha, hac⟩ := (HA.out.below BR.out) (by omega)
     obtain ⟨u, cu, c0, _⟩ := hac t tt htt
     have hcn := cnts_get (l := l) (i := j) tl
     have hcc := int_cell CS.out hcn
     have hcj := cntT_le l j t
     have C1 := Lib.hid (And.intro hcn htt)
     have tt1 := HE.out tt (List.mem_of_getElem? htt)
     generalize hcg : cntT l j (t : Int) = c at *
     have CG := Lib.hid hcg
     clear hac hcn htt hcg
     have c0' : (0 : Int) ≤ (c : Int) / 2 := by omega
     by_cases h1 : ix = (c : Int) / 2
     case neg =>
      have R : Hid (checkP (lens ts) l = 1) := check_bad SM.out fun hp => by have := (hp j _ HX.out).idx; rw [CG.out] at this; simp only at this; omega
      have h1b : (ix == (c : Int) / 2) = false := by simpa using h1
      clear f0 f1 f2 f3 f4 f5 f6 f7 e2
      go_wp2_with fail
      go_ret
      exact ⟨ret_int R.out.symm, BR.out⟩
     subst h1
     by_cases h2 : c / 2 < tt.length
     case neg =>
      have R : Hid (checkP (lens ts) l = 1) := check_bad SM.out fun hp => by have := (hp j _ HX.out).lim tt.length (by simpa using lens_get C1.out.2); rw [CG.out] at this; omega
      have h2b : ¬ (c : Int) / 2 < tt.length := by omega
      clear f0 f1 f2 f3 f4 f5 f6 f7 e2 h2
      go_wp2_with fail
      go_ret
      exact ⟨ret_int R.out.symm, BR.out⟩
     have h2b : (c : Int) / 2 < tt.length := by omega
     have RZ : ∀ {T : TypeId} , True := trivial
     have fz : wr.frozen? ⟨w.heap.size, t, none⟩ = false := by simp [World.frozen?, CS.out]
     have GO : Hid (EvOk (lens ts) l j ⟨t, (c : Int) / 2, rt, rs⟩ → RkRel w ts.length (lens ts) l (.int .i64 ((j : Int) + 1)) (wr.setCell ⟨w.heap.size, t, none⟩ (.int .i64 ((c : Int) + 1)))) := fun hok => by
      refine ⟨j + 1, by omega, by go_num, fun k y hk hy => ?_, ?_, BR.out.setCell (p := ⟨w.heap.size, t, none⟩) (Nat.le_refl _) _⟩
      ·by_cases hkj : k = j
       ·subst hkj
        rw [HX.out] at hy
        obtain rfl := Option.some.inj hy
        exact hok
       ·exact OK.out k y (by omega) hy
      ·rw [cnts_succ HX.out rfl tl, CG.out]
       exact int_store CS.out t (c + 1)
     have G1 : Hid (rt = ((c : Int) % 2 == 1) → (rt = false → rs = ResF.zero) → EvOk (lens ts) l j ⟨t, (c : Int) / 2, rt, rs⟩) := fun hr hz => by
      refine ⟨by simp, by rw [lens_len]; show (t : Int) < _; omega, ?_, fun n hn => ?_, ?_, hz⟩
      ·show (c : Int) / 2 = _
       rw [CG.out]; omega
      ·rw [show (⟨t, (c : Int) / 2, rt, rs⟩ : EvD).thread.toNat = t by simp, lens_get C1.out.2] at hn
       obtain rfl := Option.some.inj hn
       rw [CG.out]; omega
      ·show rt = _
       rw [hr, CG.out, Bool.eq_iff_iff]
       simp only [beq_iff_eq]
       omega
     clear RZ
     by_cases hpar : (c : Int) % 2 = 1
     ·have hpb : ((c : Int) % 2 == 1) = true := by simpa using hpar
      cases rt with
      | false =>
       have R : Hid (checkP (lens ts) l = 1) := check_bad SM.out fun hp => by
        have := (hp j _ HX.out).ret
        rw [CG.out] at this
        have h3 : (c % 2 == 1) = true := by simp; omega
        rw [h3] at this
        simp at this
       clear f0 f1 f2 f3 f4 f5 f6 f7 fz
       go_wp2_with fail
       go_ret
       exact ⟨ret_int R.out.symm, BR.out⟩
      | true =>
       have G2 := Lib.hid (GO.out (G1.out hpb.symm (by simp)))
       clear f0 f1 f2 f3 f4 f5 f6 f7
       go_wp2_with fail
       go_roundw
       case rel => exact G2.out
       case measure => simp [intOf]; omega
     ·have hpb : ((c : Int) % 2 == 1) = false := by simpa using hpar
      cases rt with
      | true =>
       have R : Hid (checkP (lens ts) l = 1) := check_bad SM.out fun hp => by
        have := (hp j _ HX.out).ret
        rw [CG.out] at this
        have h3 : (c % 2 == 1) = false := by simp; omega
        rw [h3] at this
        simp at this
       clear f0 f1 f2 f3 f4 f5 f6 f7 fz
       go_wp2_with fail
       go_ret
       exact ⟨ret_int R.out.symm, BR.out⟩
      | false =>
       by_cases hz : rs = ResF.zero
       ·have G2 := Lib.hid (GO.out (G1.out hpb.symm (fun _ => hz)))
        subst hz
        simp only [ResF.zero] at f0 f1 f2 f3 f4 f5 f6 f7
        go_wp2_with fail
        go_roundw
        case rel => exact G2.out
        case measure => simp [intOf]; omega
       ·have HZ := Lib.hid hz
        have R : Hid (checkP (lens ts) l = 1) := check_bad SM.out fun hp => hz ((hp j _ HX.out).res rfl)
        clear hz fz
        go_wp2_with fail
        all_goals first
         | (exfalso; exact HZ.out (res_zero_of (by assumption) (by assumption) (by assumption) (by assumption) (by assumption) (by assumption) (by assumption) (by assumption)))
         | (go_ret; exact ⟨ret_int R.out.symm, BR.out⟩)
    ·have hje : j = l.length := by omega
     have R : Hid (checkP (lens ts) l = 0) := check_ok SM.out fun k e he => OK.out k e (by have := (List.getElem?_eq_some_iff.1 he).1; omega) he
     clear hje
     go_wp2_with fail
     go_ret
     exact ⟨ret_int R.out.symm, BR.out⟩
end Go.Proofs.YtpabdmcbahmjnaaGreat
