/- The walk of package linz' newSearch. -/
import Derived.Test.YtbmoehndnbbhcaaGreatDoorZNv
import Derived.Test.YtbmoehndnbbhcaaGreatDoorMZR
import Derived.Test.YtbmoehndnbbhcaaGreatDoorMZYa
import Derived.Deep.RegionHeld3
import Derived.Deep.RegionLaw
import Derived.StillTailTactics
namespace Go.Proofs.YtbmoehndnbbhcaaGreatDoor
set_option linter.unusedVariables false
set_option linter.unusedSimpArgs false
open Go Go.RowKit Go.MapKept
def nilV : Value := .slice none 0 0
def reqF (ts : List (List OpD)) (l : List EvD) (i : Nat) : Bool := match (candsP ts l)[i]? with | some a => decide (whenP l a true ≠ -1) | none => false
def eF (ts : List (List OpD)) (l : List EvD) (i j : Nat) : Bool := match (candsP ts l)[j]?, (candsP ts l)[i]? with | some a, some b => beforeP l a b | _, _ => false
/-- the search of a history -/
def srOf (ts : List (List OpD)) (l : List EvD) : SrD := ⟨candsP ts l, bitsB (reqF ts l) (candsP ts l).length, (List.range (candsP ts l).length).map fun i => bitsB (eF ts l i) (candsP ts l).length, (candsP ts l).map fun a => (opAt ts a).kind, (candsP ts l).map fun a => readsP ts a, (candsP ts l).map fun a => numberOf a.1 a.2⟩
def NwRel (w : World) (rb : Nat) (ts : List (List OpD)) (l : List EvD) (i : Value) (wr : World) : Prop :=
  ∃ (T : Nat) (vC : Value), T ≤ ts.length ∧ i = .int .i64 T ∧ NsG w wr rb (nsRows vC nilV nilV nilV nilV (candT ts l T 0) [] [] [] []) 0
def NwIn (w : World) (rb : Nat) (ts : List (List OpD)) (l : List EvD) (T n : Nat) (i : Value) (wr : World) : Prop :=
  ∃ (I : Nat) (vC : Value), I ≤ n ∧ i = .int .i64 I ∧ NsG w wr rb (nsRows vC nilV nilV nilV nilV (candT ts l T I) [] [] [] []) 0
theorem updR_C (v vC vE vK vR vM : Value) (C C' : List OpP) (E : List Nat) (K R M : List Int) (n : Nat) (xs : List Value) (hn : n = C'.length) (hx : xs = C'.flatMap opC2) : updR (nsRows vC vE vK vR vM C E K R M) 1 v n xs = nsRows v vE vK vR vM C' E K R M := by
  subst hn hx
  funext k
  by_cases hk : k = 1
  · subst hk; rw [updR_same]; rfl
  · rw [updR_ne _ _ _ _ hk]
    match k, hk with
    | 0, _ => rfl
    | 1, hk => exact absurd rfl hk
    | 2, _ => rfl
    | 3, _ => rfl
    | 4, _ => rfl
    | 5, _ => rfl
    | k + 6, _ => rfl
theorem ns_start (w : World) (rb : Nat) : NsG w ((w.alloc (.map #[] 0)).alloc (.cells #[.pointer (some ⟨rb, 0, none⟩), .slice none 0 0, .int .u32 0, .slice none 0 0, .slice none 0 0, .slice none 0 0, .slice none 0 0, .map (some w.heap.size)] 89)) rb (nsRows nilV nilV nilV nilV nilV [] [] [] [] []) 0 := by
  refine ⟨(refu_w w _ _).2.2.1, (refu_w w _ _).2.1, fun i hi => ?_, fun i j hi hj _ b h => ?_, (refu_w w _ _).1⟩
  · rcases hi with rfl | rfl | rfl | rfl | rfl <;> exact World.ownsRow_nil _ _ _ _
  · rcases hi with rfl | rfl | rfl | rfl | rfl <;> simp [nsRows, nilV, Value.ownBlock] at h
theorem make_mapF (w : World) : (Instr.makeMap 86 none).run Tryz.prog w = .ok (.map (some w.heap.size)) (w.alloc (.map #[] 0)) := rfl
def Nw3 (w : World) (rb : Nat) (ts : List (List OpD)) (l : List EvD) (aC : Option Addr) (cC : Nat) (i : Value) (wr : World) : Prop :=
  ∃ (j : Nat) (vE vK vR vM : Value), j ≤ (candsP ts l).length ∧ i = .int .i64 j ∧ NsG w wr rb (nsRows (.slice aC (candsP ts l).length cC) vE vK vR vM (candsP ts l) ((List.range j).map fun i => bitsB (eF ts l i) (candsP ts l).length) (((candsP ts l).take j).map fun a => (opAt ts a).kind) (((candsP ts l).take j).map fun a => readsP ts a) (((candsP ts l).take j).map fun a => numberOf a.1 a.2)) (bitsB (reqF ts l) j)
theorem ns_ne {w wr : World} {rb : Nat} {r : Nat → RowD} {req k : Nat} {cs : Array Value} (h : NsG w wr rb r req) (hk : wr.heap[k]? = some (Obj.cells cs 37 (0, 0))) : k ≠ w.heap.size + 1 := fun e => by
  subst e
  rw [h.box] at hk
  simp only [Option.some.injEq, Obj.cells.injEq] at hk
  exact absurd hk.2.1 (by decide)
def jRows (vE vK vR vM : Value) (cb coff cC : Nat) (ts : List (List OpD)) (l : List EvD) (e k r m : Nat) : Nat → RowD := nsRows (.slice (some ⟨cb, coff, none⟩) (candsP ts l).length cC) vE vK vR vM (candsP ts l) ((List.range e).map fun i => bitsB (eF ts l i) (candsP ts l).length) (((candsP ts l).take k).map fun a => (opAt ts a).kind) (((candsP ts l).take r).map fun a => readsP ts a) (((candsP ts l).take m).map fun a => numberOf a.1 a.2)
theorem j_len {ts : List (List OpD)} {l : List EvD} {j : Nat} (h : j < (candsP ts l).length) : ((candsP ts l).take j).length = j := by rw [List.length_take]; omega
theorem j_take {β : Type} (f : OpP → β) {ts : List (List OpD)} {l : List EvD} {j : Nat} {b : OpP} (h : (candsP ts l)[j]? = some b) : ((candsP ts l).take (j + 1)).map f = ((candsP ts l).take j).map f ++ [f b] := by
  rw [List.take_add_one, h, List.map_append]; rfl
theorem j_put4 {w w7 w6 : World} {rb req : Nat} {vE vK vR vM v' : Value} {cb coff cC : Nat} {ts : List (List OpD)} {l : List EvD} {e j k2 k3 : Nat} {u : Int} {b : OpP} (hb : (candsP ts l)[j]? = some b) (hu : u = (opAt ts b).kind)
    (h : NsPut w w7 w6 rb (jRows vE vK vR vM cb coff cC ts l e j k2 k3) req 4 (.int .i64 u) v') : NsG w (w6.setCell ⟨w.heap.size + 1, 4, none⟩ v') rb (jRows vE v' vR vM cb coff cC ts l e (j + 1) k2 k3) req := by
  have hj := (List.getElem?_eq_some_iff.1 hb).1
  have p1 := h.ns
  unfold jRows at p1 ⊢
  rw [updR_K (K' := ((candsP ts l).take (j + 1)).map fun a => (opAt ts a).kind) (hn := by simp [nsRows]; omega) (hx := by rw [j_take _ hb]; simp [nsRows, intV, hu])] at p1
  exact p1
theorem j_put5 {w w7 w6 : World} {rb req : Nat} {vE vK vR vM v' : Value} {cb coff cC : Nat} {ts : List (List OpD)} {l : List EvD} {e j k1 k3 : Nat} {u : Int} {b : OpP} (hb : (candsP ts l)[j]? = some b) (hu : u = readsP ts b)
    (h : NsPut w w7 w6 rb (jRows vE vK vR vM cb coff cC ts l e k1 j k3) req 5 (.int .i64 u) v') : NsG w (w6.setCell ⟨w.heap.size + 1, 5, none⟩ v') rb (jRows vE vK v' vM cb coff cC ts l e k1 (j + 1) k3) req := by
  have hj := (List.getElem?_eq_some_iff.1 hb).1
  have p1 := h.ns
  unfold jRows at p1 ⊢
  rw [updR_R (R' := ((candsP ts l).take (j + 1)).map fun a => readsP ts a) (hn := by simp [nsRows]; omega) (hx := by rw [j_take _ hb]; simp [nsRows, intV, hu])] at p1
  exact p1
theorem j_put6 {w w7 w6 : World} {rb req : Nat} {vE vK vR vM v' : Value} {cb coff cC : Nat} {ts : List (List OpD)} {l : List EvD} {e j k1 k2 : Nat} {u : Int} {b : OpP} (hb : (candsP ts l)[j]? = some b) (hu : u = numberOf b.1 b.2)
    (h : NsPut w w7 w6 rb (jRows vE vK vR vM cb coff cC ts l e k1 k2 j) req 6 (.int .i64 u) v') : NsG w (w6.setCell ⟨w.heap.size + 1, 6, none⟩ v') rb (jRows vE vK vR v' cb coff cC ts l e k1 k2 (j + 1)) req := by
  have hj := (List.getElem?_eq_some_iff.1 hb).1
  have p1 := h.ns
  unfold jRows at p1 ⊢
  refine p1.congr ?_
  refine updR_M _ _ _ _ _ vM _ _ _ _ (((candsP ts l).take j).map fun a => numberOf a.1 a.2) (((candsP ts l).take (j + 1)).map fun a => numberOf a.1 a.2) _ _ ?_ ?_
  · simp [nsRows]; omega
  · rw [j_take _ hb]; simp [nsRows, intV, hu]
def Nw4 (w : World) (rb bx : Nat) (b : OpP) (ts : List (List OpD)) (l : List EvD) (cb coff cC j : Nat) (vE vK vR vM : Value) (v10 i : Value) (wr : World) : Prop :=
  ∃ (k : Nat), k ≤ (candsP ts l).length ∧ v10 = .int .u32 (bitsB (eF ts l j) k) ∧ i = .int .i64 k ∧ wr.heap[bx]? = some (opBox b) ∧ NsG w wr rb (jRows vE vK vR vM cb coff cC ts l j j j j) (bitsB (reqF ts l) (j + 1))
theorem run_field_span1 (si sr e : Int) (f : Bool) (v : Int) (k : ByteArray) (c r x : Int) (y : Bool) (W : World) : (Instr.field 63 (.agg #[.int .i64 si, .int .i64 sr, .int .i64 e, .bool f, .int .u64 v, .string k, .int .i64 c, .int .i64 r, .int .i64 x, .bool y]) 1).run Tryz.prog W = .ok (.int .i64 sr) W := by
  kernel_rfl
set_option maxRecDepth 100000 in
set_option maxHeartbeats 4000000 in
theorem newsearch_any (w : World) (rb : Nat) (ts : List (List OpD)) (l : List EvD) (h : RecOk w rb ts l) (hi16 : (invokedP l).length ≤ 16) :
    Calls Tryz.prog 16 #[.pointer (some ⟨rb, 0, none⟩)] w fun e w' => e = .returned (.pointer (some ⟨w.heap.size + 1, 0, none⟩)) ∧ SrAt w' (w.heap.size + 1) rb w.heap.size (srOf ts l) ∧ w'.heap[w.heap.size]? = some (.map #[] 0) ∧ Below w.heap.size w w' := by
  have H := Lib.hid h
  have hl1 := h.fit.len
  have FT := Lib.hid h.fit.each
  have hrl := h.at_.lt
  obtain ⟨A, c, U, d, h1, h2, h3⟩ := h.at_
  obtain ⟨r0, r1⟩ := pair_cells h1
  have H3 := Lib.hid h3
  have R1 := Lib.hid r1
  clear h h1 h2 h3 r0 r1
  have hmm := make_mapF
  go_enter Tryz.func16, Tryz.ntmps16
  go_upto_region 2 with fail
  clear hmm
  obtain ⟨W0, hW0⟩ : ∃ W0, W0 = (w.alloc (.map #[] 0)).alloc (.cells #[.pointer (some ⟨rb, 0, none⟩), .slice none 0 0, .int .u32 0, .slice none 0 0, .slice none 0 0, .slice none 0 0, .slice none 0 0, .map (some w.heap.size)] 89) := ⟨_, rfl⟩
  have N0 : Hid (NsG w W0 rb (nsRows nilV nilV nilV nilV nilV [] [] [] [] []) 0) := by rw [hW0]; exact ns_start w rb
  rw [← hW0]
  clear hW0
  have z1 := (N0.out.below.cell (p := ⟨rb, 1, none⟩) hrl).trans R1.out
  go_wp2_with fail
  clear z1
  go_loopw [23] (fun i wr => NwRel w rb ts l i wr) (fun i _ => ts.length - (intOf i).toNat)
  case atStart => exact ⟨0, nilV, by omega, rfl, N0.out⟩
  case round =>
    clear N0
    obtain ⟨T, vC, hj, rfl, hns⟩ := hrel
    have NS := Lib.hid hns
    clear hns
    by_cases hlt : T < ts.length
    · obtain ⟨tt, htt⟩ : ∃ tt, ts[T]? = some tt := ⟨_, List.getElem?_eq_getElem hlt⟩
      obtain ⟨b, off, rfl, hbz, hc⟩ := H3.out (by omega)
      obtain ⟨u, cu, k1, k2⟩ := hc T tt htt
      have z1 := (NS.out.below.cell (p := ⟨b, _, none⟩) hbz).trans k1
      have K2 := Lib.hid k2
      have hT0 : (0 : Int) ≤ T := by omega
      have hT1 : (T : Int) < ts.length := by omega
      have htl := FT.out tt (List.mem_of_getElem? htt)
      have HT := Lib.hid htt
      have HLN := Lib.hid (show lenN ts T = tt.length by unfold lenN; rw [htt]; rfl)
      clear htt hc k1 k2
      go_wp2_with fail
      clear z1
      go_loopw [30] (fun i wr => NwIn w rb ts l T tt.length i wr) (fun i _ => tt.length - (intOf i).toNat)
      case atStart => exact ⟨0, vC, by omega, rfl, NS.out⟩
      case round =>
        clear NS
        obtain ⟨I, vC, hI, rfl, hns⟩ := hrel
        have NI := Lib.hid hns
        have BI := Lib.hid hns.below
        clear hns
        by_cases hlt2 : I < tt.length
        · obtain ⟨b2, off2, rfl, hb2z, hc2⟩ := K2.out (by omega)
          have SP := Lib.hid (show ∀ j v, (spanP l ((T : Int), (I : Int))).cells[j]? = some v → _ from hc2 I hlt2)
          have RF := Lib.hid (span_refused l ((T : Int), (I : Int)))
          have RI := Lib.hid (show (spanP l ((T : Int), (I : Int))).inv = whenP l ((T : Int), (I : Int)) false from rfl)
          have CS := Lib.hid (candT_succ ts l T I)
          have CL := Lib.hid (candT_len ts l T I)
          generalize hs : spanP l ((T : Int), (I : Int)) = s at *
          obtain ⟨q0, q1, q2, q3, q4, q5, q6, q7, q8, q9⟩ := span_at (w := wr) (b := b2) (off := off2) (i := I) (s := s) fun j v hj => (BI.out.cell (p := ⟨b2, _, none⟩) hb2z).trans (SP.out j v hj)
          have hI0 : (0 : Int) ≤ I := by omega
          have hI1 : (I : Int) < tt.length := by omega
          clear hs hc2
          obtain ⟨si, sr, ⟨e, f, v, k, c, r, x, y⟩⟩ := s
          simp only at q0 q1 q2 q3 q4 q5 q6 q7 q8 q9
          go_upto_region 8 with fail
          obtain ⟨W1, hW1⟩ : ∃ W1, W1 = wr.alloc (.cells #[.int .i64 si, .int .i64 sr, .int .i64 e, .bool f, .int .u64 v, .string k, .int .i64 c, .int .i64 r, .int .i64 x, .bool y] 63) := ⟨_, rfl⟩
          have B1 : Hid (Below wr.heap.size wr W1) := by rw [hW1]; exact balZ (Below.refl _ _) _
          have KS : Hid (W1.heap[wr.heap.size]? = some (.cells #[.int .i64 si, .int .i64 sr, .int .i64 e, .bool f, .int .u64 v, .string k, .int .i64 c, .int .i64 r, .int .i64 x, .bool y] 63 (0, 0))) := by rw [hW1]; exact (heap_alloc wr _).1
          have NI1 := Lib.hid (NI.out.keep B1.out)
          rw [← hW1]
          clear hW1 q0 q1 q2 q3 q4 q5 q6 q7 q8 q9 NI BI
          generalize wr.heap.size = spb at *
          obtain ⟨q0, q1, q2, q3, q4, q5, q6, q7, q8, q9⟩ := sp_cells KS.out
          have NO : Hid (goodC l ((T : Int), (I : Int)) = false → ∀ W, Below W1.heap.size W1 W → NwIn w rb ts l T tt.length (.int .i64 ((I : Int) + 1)) W) := fun hg W hW => by
            refine ⟨I + 1, vC, by omega, by go_num, ?_⟩
            rw [CS.out, hg, if_neg (by simp), List.append_nil]
            exact NI1.out.keep hW
          by_cases hsi : si = -1
          · have NY := Lib.hid (NO.out (by unfold goodC; rw [← RI.out, hsi]; simp) W1 (Below.refl _ _))
            subst hsi
            clear q2 q3 q4 q5 q6 q7 q8 q9
            go_wp2_with fail
            go_roundw
            case rel => exact NY.out
            case measure => simp [intOf]; omega
          have hsib : (si == -1) = false := by simpa using hsi
          have hsic : (si != -1) = true := by simpa using hsi
          go_wp2_with (first | (go_at_call 33; refine stopAt ?_))
          unfold StopAt
          refine (lsref_any W1 ⟨si, sr, ⟨e, f, v, k, c, r, x, y⟩⟩).mono ?_
          rintro e2 w2 ⟨rfl, hb2⟩
          have B2 := Lib.hid hb2
          clear hb2 q0 q1 q2 q3 q4 q5 q6 q7 q8 q9
          rw [RF.out]
          cases hr : refusedP l ((T : Int), (I : Int)) with
          | true =>
            have NY := Lib.hid (NO.out (by unfold goodC; rw [hr]; simp) w2 B2.out)
            clear hr
            go_wp2_with fail
            go_roundw
            case rel => exact NY.out
            case measure => simp [intOf]; omega
          | false =>
            have HG := Lib.hid (show goodC l ((T : Int), (I : Int)) = true by unfold goodC; rw [hr, ← RI.out, decide_eq_true hsi]; rfl)
            have NI2 := Lib.hid (NI1.out.keep B2.out)
            have x1 := blk_cell NI2.out.box 1
            have fz := cells_free NI2.out.box
            simp only [nsBox, nsRows, List.getElem?_toArray, List.getElem?_cons_zero, List.getElem?_cons_succ] at x1
            have hrow := NI2.out.row 1 (Or.inl rfl)
            simp only [nsRows] at hrow
            have ROW := Lib.hid hrow
            have hsz := NI2.out.below.size
            have hsz2 : w.heap.size + 1 < w2.heap.size := (Array.getElem?_eq_some_iff.1 NI2.out.box).1
            have hcl := CL.out
            obtain ⟨i0, hi, hz0, hz1, hz2⟩ := info_parts3 opInfo
            have HI := Lib.hid (And.intro hi (And.intro hz0 (And.intro hz1 hz2)))
            clear hr hrow hi hz0 hz1 hz2
            go_wp2_with (at_builtin; refine stopAt ?_)
            unfold StopAt
            refine wpList_append_own_at _ rfl _ _ 25 rfl (w.heap.size + 2) 37 i0 _ 2 16 Tryz.underlying25 HI.out.1 HI.out.2.1 HI.out.2.2.1 HI.out.2.2.2 rfl (by decide) vC _ _ rfl (ROW.out.alloc _) ⟨w2.heap.size, 0, none⟩ 1 1 (opC2 ((T : Int), (I : Int))) rfl rfl (opC2_box (heap_alloc w2 _).1) ?_ ?_ ?_ ?_ ?_
            · intro u hu
              simp only [opC2, List.mem_cons, List.not_mem_nil, or_false] at hu
              rcases hu with rfl | rfl <;> rfl
            · unfold maxLen; omega
            · omega
            · simp; omega
            intro v3 w3 ho3 hg3 _ hat3
            obtain ⟨a3, c3, hv3⟩ := row_form ho3
            subst hv3
            have PU : Hid (NwIn w rb ts l T tt.length (.int .i64 ((I : Int) + 1)) (w3.setCell ⟨w.heap.size + 1, 1, none⟩ (.slice a3 ((candT ts l T I).length + 1) c3))) := by
              refine ⟨I + 1, .slice a3 ((candT ts l T I).length + 1) c3, by omega, by go_num, ?_⟩
              have := NI2.out.push (i := 1) (balZ (Below.refl _ _) _) (Or.inl rfl) ho3 hg3 hat3
              rw [updR_C (C' := candT ts l T (I + 1))] at this
              · exact this
              · rw [CS.out, HG.out, if_pos rfl, List.length_append]; rfl
              · rw [CS.out, HG.out, if_pos rfl, List.flatMap_append]; rfl
            have hk3 := (hg3.block (w.heap.size + 1) (by simp; omega) (fun e => by have := (row_kind ROW.out e.symm).1; omega)).trans ((alloc_old w2 _ _ hsz2).trans NI2.out.box)
            have x3 := blk_cell hk3 1
            have fz3 := cells_free hk3
            simp only [nsBox, nsRows, List.getElem?_toArray, List.getElem?_cons_zero, List.getElem?_cons_succ] at x3
            clear x1 fz ho3 hg3 hat3 hk3
            go_wp2_with fail
            go_roundw
            case rel => exact PU.out
            case measure => simp [intOf]; omega
        · have hIe : I = tt.length := by omega
          have NY : Hid (NwRel w rb ts l (.int .i64 ((T : Int) + 1)) wr) := by
            refine ⟨T + 1, vC, by omega, by go_num, ?_⟩
            rw [← candT_next, HLN.out, ← hIe]
            exact NI.out
          clear hIe
          go_wp2_with fail
          go_roundw
          case rel => exact NY.out
          case measure => simp [intOf]; omega
    · have hTe : T = ts.length := by omega
      have NC : Hid (NsG w wr rb (nsRows vC nilV nilV nilV nilV (candsP ts l) [] [] [] []) 0) := by
        have := NS.out
        rw [hTe] at this
        exact this
      clear hTe NS
      have hn16 : (candsP ts l).length ≤ 16 := Nat.le_trans (candT_len ts l ts.length 0) hi16
      have CM := Lib.hid (fun (a : OpP) (ha : a ∈ candsP ts l) => cands_mem ha)
      have hrow1 := NC.out.row 1 (Or.inl rfl)
      obtain ⟨aC, cC, hvC⟩ := row_form (by simpa only [nsRows] using hrow1)
      subst hvC
      have OC := Lib.hid (ordAt_of_row (by simpa only [nsRows] using hrow1) rfl)
      have x1 := blk_cell NC.out.box 1
      simp only [nsBox, nsRows, List.getElem?_toArray, List.getElem?_cons_zero, List.getElem?_cons_succ] at x1
      clear hrow1
      obtain ⟨wo, rfl⟩ : ∃ wo : World, wo = wr := ⟨_, rfl⟩
      go_wp2_with fail
      clear x1
      have HN : Hid (candsP ts l = candsP ts l) := rfl
      go_loopw [62] (fun i wr => Nw3 w rb ts l aC cC i wr) (fun i _ => (candsP ts l).length - (intOf i).toNat)
      case atStart => exact ⟨0, nilV, nilV, nilV, nilV, by omega, rfl, NC.out⟩
      case round =>
        clear NC OC HN
        obtain ⟨j, vE, vK, vR, vM, hj, rfl, hns⟩ := hrel
        have NS := Lib.hid hns
        clear hns
        have hrow1 := NS.out.row 1 (Or.inl rfl)
        have OC := Lib.hid (ordAt_of_row (by simpa only [nsRows] using hrow1) rfl)
        clear hrow1
        by_cases hltj : j < (candsP ts l).length
        · obtain ⟨b, hb⟩ : ∃ b, (candsP ts l)[j]? = some b := ⟨_, List.getElem?_eq_getElem hltj⟩
          obtain ⟨cb, coff, hcA, hcbz, hcc⟩ := OC.out (by omega)
          subst hcA
          obtain ⟨c0, c1⟩ := hcc j b hb
          have hj0 : (0 : Int) ≤ j := by omega
          have hj1 : (j : Int) < (candsP ts l).length := by omega
          obtain ⟨tb, ib, ttb, ob, rfl, htb, hob, hopb⟩ := exP_get (CM.out b (List.mem_of_getElem? hb)).1
          have HB := Lib.hid hb
          have HTB := Lib.hid (And.intro htb hob)
          have HOB := Lib.hid hopb
          have hilb := (List.getElem?_eq_some_iff.1 hob).1
          clear hcc hb htb hob hopb
          simp only at c0 c1
          go_upto_region 15 with fail
          obtain ⟨W1, hW1⟩ : ∃ W1, W1 = wr.alloc (.cells #[.int .i64 tb, .int .i64 ib] 37) := ⟨_, rfl⟩
          have B1 : Hid (Below wr.heap.size wr W1) := by rw [hW1]; exact balZ (Below.refl _ _) _
          have KA : Hid (W1.heap[wr.heap.size]? = some (opBox ((tb : Int), (ib : Int)))) := by rw [hW1]; exact (heap_alloc wr _).1
          have NS1 := Lib.hid (NS.out.keep B1.out)
          rw [← hW1]
          clear hW1 c0 c1
          generalize wr.heap.size = bx at *
          obtain ⟨y0, y1⟩ := opBox_cells KA.out
          simp only at y0 y1
          have SB := Lib.hid (show (spanP l ((tb : Int), (ib : Int))).ret = whenP l ((tb : Int), (ib : Int)) true from rfl)
          have SBI := Lib.hid (show (spanP l ((tb : Int), (ib : Int))).inv = whenP l ((tb : Int), (ib : Int)) false from rfl)
          have SPB := Lib.hid (fun W (hW : Below w.heap.size w W) => lspan_any W rb ts _ (H.out.below hW).at_ H.out.fit tb ib ttb HTB.out.1 hilb)
          generalize hsB : spanP l ((tb : Int), (ib : Int)) = sB at *
          have HSB := Lib.hid hsB
          clear hsB
          obtain ⟨bi, br, ⟨be, bf, bv, bk, bc, bR, bx2, by2⟩⟩ := sB
          simp only [SpD.val] at SPB
          have FS := run_field_span1 bi br be bf bv bk bc bR bx2 by2
          go_wp2_with (first | (go_at_call 23; refine stopAt ?_))
          unfold StopAt
          refine (SPB.out _ NS1.out.below).mono ?_
          rintro e2 w2 ⟨rfl, hb2⟩
          have NS2 := Lib.hid (NS1.out.keep hb2)
          have KA2 := Lib.hid (kept_block KA.out hb2)
          clear hb2 y0 y1
          go_upto_if 71 with fail
          clear FS
          go_cut [] from 71 to 80 (fun wx => wx.heap[bx]? = some (opBox ((tb : Int), (ib : Int))) ∧ NsG w wx rb (nsRows (.slice (some ⟨cb, coff, none⟩) (candsP ts l).length cC) vE vK vR vM (candsP ts l) ((List.range j).map fun i => bitsB (eF ts l i) (candsP ts l).length) (((candsP ts l).take j).map fun a => (opAt ts a).kind) (((candsP ts l).take j).map fun a => readsP ts a) (((candsP ts l).take j).map fun a => numberOf a.1 a.2)) (bitsB (reqF ts l) (j + 1)))
          case first =>
            by_cases hbr : br = -1
            · have RQ := Lib.hid (show bitsB (reqF ts l) (j + 1) = bitsB (reqF ts l) j by
                rw [bitsB, if_neg]; unfold reqF; rw [HB.out]; simp only; rw [← SB.out, hbr]; simp)
              subst hbr
              go_wp2_with fail
              go_meet
              exact ⟨KA2.out, by rw [RQ.out]; exact NS2.out⟩
            · have RQ := Lib.hid (show bitsB (reqF ts l) (j + 1) = bitsB (reqF ts l) j ||| 2 ^ j by
                rw [bitsB, if_pos]; unfold reqF; rw [HB.out]; simp only; rw [← SB.out]; exact decide_eq_true hbr)
              have hbrb : (br == -1) = false := by simpa using hbr
              have hbrc : (br != -1) = true := by simpa using hbr
              have x2 := blk_cell NS2.out.box 2
              have fz := cells_free NS2.out.box
              simp only [nsBox, List.getElem?_toArray, List.getElem?_cons_zero, List.getElem?_cons_succ] at x2
              have hblt := bitsB_32 (reqF ts l) (n := j) (by omega)
              generalize bitsB (reqF ts l) j = rq at *
              go_upto_region 16 with fail
              go_still_tail 9, (by kernel_rfl)
              go_wp2_with fail
              go_meet
              rw [or_pow rq j hblt (by omega), RQ.out]
              exact ⟨((turned_set w2 (w.heap.size + 1) 2 _).block bx (ns_ne NS2.out KA2.out)).trans KA2.out, (NS2.out.setReq (Below.refl _ _) (rq ||| 2 ^ j)).keep (Below.refl _ _).drew⟩
          case rest =>
            obtain ⟨hka, hns⟩ := hcut
            have KA3 := Lib.hid hka
            have NS3 := Lib.hid (show NsG w wc rb (jRows vE vK vR vM cb coff cC ts l j j j j) (bitsB (reqF ts l) (j + 1)) from hns)
            clear hka hns NS1 NS2 KA2
            have x1 := blk_cell NS3.out.box 1
            simp only [nsBox, jRows, nsRows, List.getElem?_toArray, List.getElem?_cons_zero, List.getElem?_cons_succ] at x1
            go_wp2_with fail
            clear x1
            go_loopw [10, 86] (fun v10 i wr => Nw4 w rb bx ((tb : Int), (ib : Int)) ts l cb coff cC j vE vK vR vM v10 i wr) (fun v10 i _ => (candsP ts l).length - (intOf i).toNat)
            case atStart => exact ⟨0, by omega, rfl, rfl, KA3.out, NS3.out⟩
            case round =>
              clear NS3 KA3 OC
              obtain ⟨k, hk, rfl, rfl, hka, hns⟩ := hrel
              have NI := Lib.hid hns
              have KB := Lib.hid hka
              clear hns hka
              have hrow1 := NI.out.row 1 (Or.inl rfl)
              have OC := Lib.hid (ordAt_of_row (by simpa only [jRows, nsRows] using hrow1) rfl)
              clear hrow1
              by_cases hltk : k < (candsP ts l).length
              · obtain ⟨a, ha⟩ : ∃ a, (candsP ts l)[k]? = some a := ⟨_, List.getElem?_eq_getElem hltk⟩
                obtain ⟨cb2, coff2, hcA, hcbz2, hcc⟩ := OC.out (by omega)
                simp only [Option.some.injEq, Addr.mk.injEq, and_true] at hcA
                obtain ⟨rfl, rfl⟩ := hcA
                obtain ⟨c0, c1⟩ := hcc k a ha
                have hk0 : (0 : Int) ≤ k := by omega
                have hk1 : (k : Int) < (candsP ts l).length := by omega
                obtain ⟨ta, ia, tta, oa, rfl, hta, hoa, _⟩ := exP_get (CM.out a (List.mem_of_getElem? ha)).1
                have HA := Lib.hid ha
                have HTA := Lib.hid (And.intro hta (List.getElem?_eq_some_iff.1 hoa).1)
                clear hcc ha hta hoa
                simp only at c0 c1
                go_upto_region 21 with fail
                obtain ⟨W1, hW1⟩ : ∃ W1, W1 = wr.alloc (.cells #[.int .i64 ta, .int .i64 ia] 37) := ⟨_, rfl⟩
                have B1 : Hid (Below wr.heap.size wr W1) := by rw [hW1]; exact balZ (Below.refl _ _) _
                have KA : Hid (W1.heap[wr.heap.size]? = some (opBox (ta, ia))) := by rw [hW1]; exact (heap_alloc wr _).1
                have NI1 := Lib.hid (NI.out.keep B1.out)
                have KB1 := Lib.hid (kept_block KB.out B1.out)
                have BF := Lib.hid (before_span l ((ta : Int), (ia : Int)) ((tb : Int), (ib : Int)))
                rw [← hW1]
                clear hW1 c0 c1 B1 NI KB
                generalize wr.heap.size = bya at *
                obtain ⟨x0, x1⟩ := opBox_cells KA.out
                simp only at x0 x1
                go_wp2_with (first | (go_at_call 23; refine stopAt ?_))
                unfold StopAt
                refine (lspan_any W1 rb ts _ (H.out.below NI1.out.below).at_ H.out.fit ta ia tta HTA.out.1 HTA.out.2).mono ?_
                rintro e2 w2 ⟨rfl, hb2⟩
                generalize hsx : spanP l ((ta : Int), (ia : Int)) = sx at *
                obtain ⟨si, sr, ⟨e, f, v, k0, c, r, x, y⟩⟩ := sx
                simp only [SpD.val]
                obtain ⟨W4, hW4⟩ : ∃ W4, W4 = w2.alloc (.cells #[.int .i64 si, .int .i64 sr, .int .i64 e, .bool f, .int .u64 v, .string k0, .int .i64 c, .int .i64 r, .int .i64 x, .bool y] 63) := ⟨_, rfl⟩
                have B4 : Hid (Below W1.heap.size W1 W4) := by rw [hW4]; exact hb2.alloc hb2.size _
                have KS4 : Hid (W4.heap[w2.heap.size]? = some (.cells #[.int .i64 si, .int .i64 sr, .int .i64 e, .bool f, .int .u64 v, .string k0, .int .i64 c, .int .i64 r, .int .i64 x, .bool y] 63 (0, 0))) := by rw [hW4]; exact (heap_alloc w2 _).1
                have NI4 := Lib.hid (NI1.out.keep B4.out)
                have KB4 := Lib.hid (kept_block KB1.out B4.out)
                clear hb2 x0 x1 hsx KA
                go_upto_region 22 with fail
                rw [← hW4]
                clear hW4 NI1 KB1 B4
                generalize w2.heap.size = spb at *
                have KC : Hid (∀ W, Below W4.heap.size W4 W → (W.cell? ⟨bx, 0, none⟩ = some (.int .i64 tb) ∧ W.cell? ⟨bx, 1, none⟩ = some (.int .i64 ib)) ∧ W.cell? ⟨spb, 1, none⟩ = some (.int .i64 sr)) :=
                  fun W hW => ⟨opBox_cells (opBox_kept KB4.out hW), blk_cell (kept_block KS4.out hW) 1⟩
                have SA : Hid (∀ W, Below W4.heap.size W4 W → Calls Tryz.prog 23 #[.pointer (some ⟨rb, 0, none⟩), .agg #[.int .i64 tb, .int .i64 ib]] W fun e w' => e = .returned (spanP l ((tb : Int), (ib : Int))).val ∧ Below W4.heap.size W4 w') :=
                  fun W hW => (lspan_any W rb ts _ (H.out.below (NI4.out.keep hW).below).at_ H.out.fit tb ib ttb HTB.out.1 hilb).mono fun e w' p => ⟨p.1, hW.trans (p.2.mono hW.size)⟩
                have BD : Hid (Below W4.heap.size W4 W4.drew) := (Below.refl _ _).drew
                generalize hsa : spanP l ((tb : Int), (ib : Int)) = sa at *
                obtain ⟨ai, ar, ⟨ae, af, av, ak, ac, aR, ax, ay⟩⟩ := sa
                simp only [SpD.val] at SA
                have FS0 := run_field_span ai ar ae af av ak ac aR ax ay
                have BG := Lib.hid (show beforeP l ((ta : Int), (ia : Int)) ((tb : Int), (ib : Int)) = (decide (sr ≠ -1) && decide (sr < ai)) from BF.out)
                have EF := Lib.hid (show eF ts l j k = beforeP l ((ta : Int), (ia : Int)) ((tb : Int), (ib : Int)) by unfold eF; rw [HA.out, HB.out])
                clear hsa BF
                have NY : Hid (∀ W, Below W4.heap.size W4 W → ∀ v10 : Int, v10 = (bitsB (eF ts l j) (k + 1) : Nat) → Nw4 w rb bx ((tb : Int), (ib : Int)) ts l cb coff cC j vE vK vR vM (.int .u32 v10) (.int .i64 ((k : Int) + 1)) W) := fun W hW v10 hv =>
                  ⟨k + 1, by omega, by rw [hv], by go_num, kept_block KB4.out hW, NI4.out.keep hW⟩
                have hblt := bitsB_32 (eF ts l j) (n := k) (by omega)
                by_cases r1 : sr = -1
                · subst r1
                  have EN := Lib.hid (show bitsB (eF ts l j) (k + 1) = bitsB (eF ts l j) k by rw [bitsB, if_neg]; rw [EF.out, BG.out]; simp)
                  refine wp_region_class (C := fun W => Below W4.heap.size W4 W) (by kernel_rfl) (by kernel_rfl) BD.out ?_
                  repeat (first | go_big_quiet_step (fail) | (refine' wpQuiet_take (by rfl) (fun W hW => ?_) ?_; rotate_left; (obtain ⟨⟨x0, x1⟩, x2⟩ := KC.out W hW); go_simp; (first | rfl | (with_reducible exact SA.out W hW)); (simp only [Act.put, List.setIfInBounds_toArray, List.set_cons_zero, List.set_cons_succ])) | ((refine wpQuiet_skip (by rfl) ?_); (simp only [Act.put, List.setIfInBounds_toArray, List.set_cons_zero, List.set_cons_succ])))
                  refine wpQuiet_nil ?_
                  intro w7 hb7
                  have B7 := Lib.hid hb7
                  clear hb7
                  go_wp2_with fail
                  go_roundw
                  case rel => exact NY.out _ B7.out _ (by rw [EN.out])
                  case measure => simp [intOf]; omega
                have r1b : (sr == -1) = false := by simpa using r1
                have r1c : (sr != -1) = true := by simpa using r1
                cases r3 : decide (sr < ai) with
                | true =>
                  have EN := Lib.hid (show bitsB (eF ts l j) (k + 1) = bitsB (eF ts l j) k ||| 2 ^ k by rw [bitsB, if_pos]; rw [EF.out, BG.out, r3]; simp [r1])
                  refine wp_region_class (C := fun W => Below W4.heap.size W4 W) (by kernel_rfl) (by kernel_rfl) BD.out ?_
                  repeat (first | go_big_quiet_step (fail) | (refine' wpQuiet_take (by rfl) (fun W hW => ?_) ?_; rotate_left; (obtain ⟨⟨x0, x1⟩, x2⟩ := KC.out W hW); go_simp; (first | rfl | (with_reducible exact SA.out W hW)); (simp only [Act.put, List.setIfInBounds_toArray, List.set_cons_zero, List.set_cons_succ])) | ((refine wpQuiet_skip (by rfl) ?_); (simp only [Act.put, List.setIfInBounds_toArray, List.set_cons_zero, List.set_cons_succ])))
                  refine wpQuiet_nil ?_
                  intro w7 hb7
                  have B7 := Lib.hid hb7
                  clear hb7
                  go_wp2_with fail
                  go_roundw
                  case rel =>
                    refine NY.out _ B7.out _ ?_
                    rw [EN.out, ← or_pow _ k hblt (by omega)]
                  case measure => simp [intOf]; omega
                | false =>
                  have EN := Lib.hid (show bitsB (eF ts l j) (k + 1) = bitsB (eF ts l j) k by rw [bitsB, if_neg]; rw [EF.out, BG.out, r3]; simp)
                  refine wp_region_class (C := fun W => Below W4.heap.size W4 W) (by kernel_rfl) (by kernel_rfl) BD.out ?_
                  repeat (first | go_big_quiet_step (fail) | (refine' wpQuiet_take (by rfl) (fun W hW => ?_) ?_; rotate_left; (obtain ⟨⟨x0, x1⟩, x2⟩ := KC.out W hW); go_simp; (first | rfl | (with_reducible exact SA.out W hW)); (simp only [Act.put, List.setIfInBounds_toArray, List.set_cons_zero, List.set_cons_succ])) | ((refine wpQuiet_skip (by rfl) ?_); (simp only [Act.put, List.setIfInBounds_toArray, List.set_cons_zero, List.set_cons_succ])))
                  refine wpQuiet_nil ?_
                  intro w7 hb7
                  have B7 := Lib.hid hb7
                  clear hb7
                  go_wp2_with fail
                  go_roundw
                  case rel => exact NY.out _ B7.out _ (by rw [EN.out])
                  case measure => simp [intOf]; omega
              · have hke : k = (candsP ts l).length := by omega
                subst hke
                have x3 := blk_cell NI.out.box 3
                have fz := cells_free NI.out.box
                simp only [nsBox, jRows, nsRows, List.getElem?_toArray, List.getElem?_cons_zero, List.getElem?_cons_succ] at x3
                have hrow := NI.out.row 3 (Or.inr (Or.inl rfl))
                simp only [jRows, nsRows, List.length_map, List.length_range] at hrow
                have ROW := Lib.hid hrow
                have hsz : w.heap.size + 1 < wr.heap.size := (Array.getElem?_eq_some_iff.1 NI.out.box).1
                obtain ⟨i0, hi, hz0, hz1, hz2⟩ := info_parts3 u32Info
                have HI := Lib.hid (And.intro hi (And.intro hz0 (And.intro hz1 hz2)))
                clear hrow hi hz0 hz1 hz2
                go_wp2_with (at_builtin; refine stopAt ?_)
                unfold StopAt
                refine wpList_append_own_at _ rfl _ _ 87 rfl (w.heap.size + 2) 54 i0 _ 1 4 Tryz.underlying87 HI.out.1 HI.out.2.1 HI.out.2.2.1 HI.out.2.2.2 rfl (by decide) vE _ _ rfl (ROW.out.alloc _) ⟨wr.heap.size, 0, none⟩ 1 1 [.int .u32 (bitsB (eF ts l j) (candsP ts l).length)] rfl rfl (cell_one_new _ _ _) ?_ ?_ ?_ ?_ ?_
                · intro u hu
                  simp only [List.mem_singleton] at hu
                  subst hu
                  rfl
                · unfold maxLen; omega
                · omega
                · simp; omega
                intro v3 w3 ho3 hg3 _ hat3
                obtain ⟨a3, c3, hv3⟩ := row_form ho3
                subst hv3
                have PP := ns_put NI.out (balZ (Below.refl _ _) _) (i := 3) (u := .int .u32 (bitsB (eF ts l j) (candsP ts l).length)) (v' := .slice a3 (j + 1) c3) (Or.inr (Or.inl rfl)) (show (54 : TypeId) ≠ 37 by decide) (by simpa only [jRows, nsRows, List.length_map, List.length_range] using ho3) hg3 hat3
                obtain ⟨p1, x3', fz3, p4⟩ := PP
                obtain ⟨_, k5⟩ := p4 bx _ KB.out
                unfold jRows at p1
                simp only [jRows, nsRows] at x3'
                rw [updR_E (E' := (List.range (j + 1)).map fun i => bitsB (eF ts l i) (candsP ts l).length) (hn := by simp [nsRows]) (hx := by simp [nsRows, u32V, List.range_succ])] at p1
                obtain ⟨vE2, hvE2⟩ : ∃ v : Value, v = .slice a3 (j + 1) c3 := ⟨_, rfl⟩
                obtain ⟨W5, hW5⟩ : ∃ W5, W5 = w3.setCell ⟨w.heap.size + 1, 3, none⟩ (.slice a3 (j + 1) c3) := ⟨_, rfl⟩
                rw [← hW5, ← hvE2] at p1
                rw [← hW5] at k5
                have N5 : Hid (NsG w W5 rb (jRows vE2 vK vR vM cb coff cC ts l (j + 1) j j j) (bitsB (reqF ts l) (j + 1))) := Lib.hid p1
                have K5 : Hid (W5.heap[bx]? = some (opBox ((tb : Int), (ib : Int)))) := Lib.hid k5
                clear x3 fz ho3 hg3 hat3 p1 p4 k5 NI KB
                go_upto_region 26 with fail
                rw [← hW5]
                clear hW5 x3' fz3
                subst hvE2
                generalize hvE3 : (Value.slice a3 (j + 1) c3) = vE3 at *
                clear hvE3
                have hzz4 : w.heap.size + 1 < W5.heap.size := (Array.getElem?_eq_some_iff.1 N5.out.box).1
                have BD : Hid (Below W5.heap.size W5 W5.drew) := (Below.refl _ _).drew
                have KX : Hid (∀ W, Below W5.heap.size W5 W → (W.cell? ⟨bx, 0, none⟩ = some (.int .i64 tb) ∧ W.cell? ⟨bx, 1, none⟩ = some (.int .i64 ib))) := fun W hW => opBox_cells (opBox_kept K5.out hW)
                have CX : Hid (∀ W, Below W5.heap.size W5 W → W.cell? ⟨w.heap.size + 1, 4, none⟩ = some vK) := fun W hW => (blk_cell (N5.out.keep hW).box 4)
                have cD := CX.out _ BD.out
                have OPC := Lib.hid (fun (W : World) (hW : Below W5.heap.size W5 W) => (lop_any W rb ts _ (H.out.below (N5.out.keep hW).below).at_ H.out.fit tb ib ttb ob HTB.out.1 HTB.out.2))
                have FK := run_field_op ob.kind ob.handle ob.value ob.expect ob.key
                go_cut [] from 121 to 133 (fun wx => ∃ v, wx.heap[bx]? = some (opBox ((tb : Int), (ib : Int))) ∧ NsG w wx rb (jRows vE3 v vR vM cb coff cC ts l (j + 1) (j + 1) j j) (bitsB (reqF ts l) (j + 1)))
                case first =>
                  obtain ⟨x0, x1⟩ := KX.out _ BD.out
                  go_region_law (first
                    | (go_simp; go_at_call 22; (with_reducible refine (OPC.out _ BD.out).mono ?_); rintro e w7 ⟨rfl, hb7⟩; (have B7 := Lib.hid (BD.out.trans (hb7.mono BD.out.size))); (have N7 := Lib.hid (N5.out.keep B7.out)); (have K7 := Lib.hid (kept_block K5.out B7.out)); (have z7 := CX.out _ B7.out); (have L7 : w.heap.size + 1 < w7.heap.size := (Array.getElem?_eq_some_iff.1 N7.out.box).1); (obtain ⟨x70, x71⟩ := KX.out _ B7.out); clear hb7)
                    | ((refine ns_step rfl _ _ rfl _ N7.out 4 (Or.inr (Or.inr (Or.inl rfl))) rfl rfl (by first | exact balZ (Below.refl _ _) _ | exact (balZ (Below.refl _ _) _).drew) rfl ⟨w7.heap.size, 0, none⟩ rfl (ob.kind) (by exact blk_cell (heap_alloc w7 _).1 0) (by simp only [jRows, nsRows, List.length_map, List.length_take]; omega) ?_); rintro a6 c6 w6 hp6; (have P6 := Lib.hid hp6); (have K6 := Lib.hid (hp6.keep bx _ K7.out)); (have z6 : w6.cell? ⟨w.heap.size + 1, 4, none⟩ = some vK := hp6.cell); (have f6 := hp6.free); clear hp6))
                  all_goals (go_wp2_with fail; go_meet)
                  all_goals exact ⟨_, K6.out.2, j_put4 HB.out (by rw [HOB.out]) P6.out⟩
                case rest =>
                  obtain ⟨vK8, hka, hns⟩ := hcut
                  rename World => W8
                  have K8 := Lib.hid hka
                  have N8 := Lib.hid hns
                  clear hka hns K5 N5 BD KX CX cD
                  clear OPC FK
                  go_upto_region 27 with fail
                  have hzz5 : w.heap.size + 1 < W8.heap.size := (Array.getElem?_eq_some_iff.1 N8.out.box).1
                  have BD : Hid (Below W8.heap.size W8 W8.drew) := (Below.refl _ _).drew
                  have KX : Hid (∀ W, Below W8.heap.size W8 W → (W.cell? ⟨bx, 0, none⟩ = some (.int .i64 tb) ∧ W.cell? ⟨bx, 1, none⟩ = some (.int .i64 ib))) := fun W hW => opBox_cells (opBox_kept K8.out hW)
                  have CX : Hid (∀ W, Below W8.heap.size W8 W → W.cell? ⟨w.heap.size + 1, 5, none⟩ = some vR) := fun W hW => (blk_cell (N8.out.keep hW).box 5)
                  have cD := CX.out _ BD.out
                  have OPC := Lib.hid (fun (W : World) (hW : Below W8.heap.size W8 W) => (lreads_any W rb ts l (H.out.below (N8.out.keep hW).below) tb ib ttb ob HTB.out.1 HTB.out.2))
                  go_cut [] from 134 to 145 (fun wx => ∃ v, wx.heap[bx]? = some (opBox ((tb : Int), (ib : Int))) ∧ NsG w wx rb (jRows vE3 vK8 v vM cb coff cC ts l (j + 1) (j + 1) (j + 1) j) (bitsB (reqF ts l) (j + 1)))
                  case first =>
                    obtain ⟨x0, x1⟩ := KX.out _ BD.out
                    go_region_law (first
                      | (go_simp; go_at_call 35; (with_reducible refine (OPC.out _ BD.out).mono ?_); rintro e w7 ⟨rfl, hb7⟩; (have B7 := Lib.hid (BD.out.trans (hb7.mono BD.out.size))); (have N7 := Lib.hid (N8.out.keep B7.out)); (have K7 := Lib.hid (kept_block K8.out B7.out)); (have z7 := CX.out _ B7.out); (have L7 : w.heap.size + 1 < w7.heap.size := (Array.getElem?_eq_some_iff.1 N7.out.box).1); (obtain ⟨x70, x71⟩ := KX.out _ B7.out); clear hb7)
                      | ((refine ns_step rfl _ _ rfl _ N7.out 5 (Or.inr (Or.inr (Or.inr (Or.inl rfl)))) rfl rfl (by first | exact balZ (Below.refl _ _) _ | exact (balZ (Below.refl _ _) _).drew) rfl ⟨w7.heap.size, 0, none⟩ rfl (readsP ts ((tb : Int), (ib : Int))) (by exact blk_cell (heap_alloc w7 _).1 0) (by simp only [jRows, nsRows, List.length_map, List.length_take]; omega) ?_); rintro a6 c6 w6 hp6; (have P6 := Lib.hid hp6); (have K6 := Lib.hid (hp6.keep bx _ K7.out)); (have z6 : w6.cell? ⟨w.heap.size + 1, 5, none⟩ = some vR := hp6.cell); (have f6 := hp6.free); clear hp6))
                    all_goals (go_wp2_with fail; go_meet)
                    all_goals exact ⟨_, K6.out.2, j_put5 HB.out rfl P6.out⟩
                  case rest =>
                    obtain ⟨vR9, hka, hns⟩ := hcut
                    rename World => W9
                    have K9 := Lib.hid hka
                    have N9 := Lib.hid hns
                    clear hka hns K8 N8 BD KX CX cD
                    clear OPC
                    go_upto_region 28 with fail
                    have hzz6 : w.heap.size + 1 < W9.heap.size := (Array.getElem?_eq_some_iff.1 N9.out.box).1
                    have BD : Hid (Below W9.heap.size W9 W9.drew) := (Below.refl _ _).drew
                    have KX : Hid (∀ W, Below W9.heap.size W9 W → (W.cell? ⟨bx, 0, none⟩ = some (.int .i64 tb) ∧ W.cell? ⟨bx, 1, none⟩ = some (.int .i64 ib))) := fun W hW => opBox_cells (opBox_kept K9.out hW)
                    have CX : Hid (∀ W, Below W9.heap.size W9 W → W.cell? ⟨w.heap.size + 1, 6, none⟩ = some vM) := fun W hW => (blk_cell (N9.out.keep hW).box 6)
                    have cD := CX.out _ BD.out
                    have cW := CX.out _ (Below.refl _ _)
                    have hnz : Hid (Below W9.heap.size W9 W9.drew) := (Below.refl _ _).drew
                    obtain ⟨x0, x1⟩ := KX.out _ BD.out
                    go_region_law (first
                      | (go_simp; go_at_call 36; (refine (number_any _ _ _).mono ?_); rintro e w7 ⟨rfl, rfl⟩; (have N7 := Lib.hid (N9.out.keep hnz.out)); (have K7 := Lib.hid (kept_block K9.out hnz.out)); (have z7 := CX.out _ hnz.out); (have L7 : w.heap.size + 1 < W9.drew.heap.size := (Array.getElem?_eq_some_iff.1 N7.out.box).1))
                      | ((refine ns_step rfl _ _ rfl _ N7.out 6 (Or.inr (Or.inr (Or.inr (Or.inr rfl)))) rfl rfl (by first | exact balZ (Below.refl _ _) _ | exact (balZ (Below.refl _ _) _).drew) rfl ⟨W9.drew.heap.size, 0, none⟩ rfl (numberOf (tb : Int) (ib : Int)) (by exact blk_cell (heap_alloc W9.drew _).1 0) (by simp only [jRows, nsRows, List.length_map, List.length_take]; omega) ?_); rintro a6 c6 w6 hp6; (have P6 := Lib.hid hp6); (have K6 := Lib.hid (hp6.keep bx _ K7.out)); (have z6 : w6.cell? ⟨w.heap.size + 1, 6, none⟩ = some vM := hp6.cell); (have f6 := hp6.free); clear hp6))
                    all_goals (have PM := Lib.hid (j_put6 HB.out rfl P6.out); have RJ : Hid (Nw3 w rb ts l (some ⟨cb, coff, none⟩) cC (.int .i64 ((j : Int) + 1)) (w6.setCell ⟨w.heap.size + 1, 6, none⟩ (.slice a6 ((jRows vE3 vK8 vR9 vM cb coff cC ts l (j + 1) (j + 1) (j + 1) j 6).n + 1) c6))) := Lib.hid ⟨j + 1, vE3, vK8, vR9, _, by omega, by go_num, PM.out⟩; go_wp2_with fail; go_roundw; (case rel => exact RJ.out); (case measure => simp [intOf]; omega))
        · have hje : j = (candsP ts l).length := by omega
          subst hje
          have hd := NS.out
          simp only [List.take_length] at hd
          have ND := Lib.hid (NsG.done (s := srOf ts l) hd rfl)
          have NF := Lib.hid (And.intro hd.map hd.below)
          clear hd
          go_wp2_with fail
          go_ret
          exact ⟨rfl, ND.out, NF.out.1, NF.out.2⟩
end Go.Proofs.YtbmoehndnbbhcaaGreatDoor
