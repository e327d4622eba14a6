/- Rows of operations; the walk of the reference's Invoked. Package linz' record in memory; the walks of op and span. The walks of package model, first part: the refusals. -/
import Derived.Test.YtbmoehndnbbhcaaGreatDoorMZB
import Derived.Deep.RegionHeld3
import Derived.Test.YtbmoehndnbbhcaaGreatDoorMZE
import Derived.StillTailTactics
import Derived.Test.YtbmoehndnbbhcaaGreatDoorMFamB
import Derived.Test.YtbmoehndnbbhcaaGreatDoorMAbs
import Derived.RegionTactic
import Derived.ChangeAlike
import Derived.BigRegion
namespace Go.Proofs.YtbmoehndnbbhcaaGreatDoor
set_option linter.unusedVariables false
set_option linter.unusedSimpArgs false
open Go Go.RowKit Go.MapKept
def opC2 (a : OpP) : List Value := [.int .i64 a.1, .int .i64 a.2]
theorem row_keep {w w' : World} {B size n : Nat} {e : TypeId} {v : Value} {xs : List Value} (h : w.ownsRow B e size v n xs) (hk : ∀ g, v.ownBlock = some g → w'.heap[g]? = w.heap[g]?) : w'.ownsRow B e size v n xs := by
  refine ⟨h.1, ?_⟩
  rcases h.2 with h0 | ⟨g, cap, cur, hv, hb, hg, r⟩
  · exact Or.inl h0
  · refine Or.inr ⟨g, cap, cur, hv, hb, ?_, r⟩
    rw [hk g (by rw [hv]; rfl)]; exact hg
theorem opC2_len (l : List OpP) : (l.flatMap opC2).length = l.length * 2 := by
  induction l with
  | nil => rfl
  | cons x r ih => simp [opC2, ih]; omega
theorem opC2_one (l : List OpP) : ∀ u ∈ l.flatMap opC2, u.oneCell' = true := by
  intro u hu
  obtain ⟨x, _, hx⟩ := List.mem_flatMap.1 hu
  simp only [opC2, List.mem_cons, List.not_mem_nil, or_false] at hx
  rcases hx with rfl | rfl <;> rfl
theorem opC2_at (l : List OpP) (j : Nat) (x : OpP) (hx : l[j]? = some x) : (l.flatMap opC2)[j * 2]? = some (.int .i64 x.1) ∧ (l.flatMap opC2)[j * 2 + 1]? = some (.int .i64 x.2) := by
  induction l generalizing j with
  | nil => simp at hx
  | cons y r ih =>
    cases j with
    | zero =>
      simp only [List.getElem?_cons_zero, Option.some.injEq] at hx
      subst hx
      simp [opC2]
    | succ j =>
      have := ih j (by simpa using hx)
      rw [List.flatMap_cons]
      have e : (opC2 y).length = 2 := rfl
      rw [List.getElem?_append_right (by rw [e]; omega), List.getElem?_append_right (by rw [e]; omega), e, show (j + 1) * 2 - 2 = j * 2 by omega, show (j + 1) * 2 + 1 - 2 = j * 2 + 1 by omega]
      exact this
/-- the cells of one operation that is read from a box -/
theorem opC2_box {W : World} {b : Nat} {a : OpP} (h : W.heap[b]? = some (opBox a)) : ∀ j u, (opC2 a)[j]? = some u → W.cell? ((⟨b, 0, none⟩ : Addr).add j) = some u := by
  intro j u hu
  obtain ⟨c0, c1⟩ := opBox_cells h
  match j, hu with
  | 0, hu => simp [opC2] at hu; subst hu; exact c0
  | 1, hu => simp [opC2] at hu; subst hu; exact c1
  | j + 2, hu => simp [opC2] at hu
theorem ordAt_of_row {w : World} {B : Nat} {A : Option Addr} {n c : Nat} {l : List OpP} (h : w.ownsRow B 37 2 (.slice A n c) n (l.flatMap opC2)) (hn : n = l.length) : OrdAt w A l := fun h0 => by
  obtain ⟨g, cap, hv⟩ := row_some h (by omega)
  simp only [Value.slice.injEq, true_and] at hv
  obtain ⟨rfl, rfl⟩ := hv
  refine ⟨g, 0, rfl, row_lt h rfl, fun j x hx => ?_⟩
  have hp := opC2_at l j x hx
  have c1 := h.cells (g := g) rfl (j * 2) _ hp.1
  have c2 := h.cells (g := g) rfl (j * 2 + 1) _ hp.2
  rw [raddr] at c1 c2
  simp only [Nat.zero_add]
  exact ⟨c1, c2⟩
theorem opInfo : (Tryz.prog.info? 37).map (fun i => (i.zero, i.size, i.bytes)) = some (some (.agg #[.int .i64 0, .int .i64 0]), 2, 16) := by kernel_rfl
def invF (l : List EvD) (i : Nat) : Option OpP := match l[i]? with
  | some e => if e.ret = false ∧ whenP l e.op false = i then some e.op else none
  | none => none
def invN (l : List EvD) (n : Nat) : List OpP := (List.range n).filterMap (invF l)
theorem inv_all (l : List EvD) : invN l l.length = invokedP l := rfl
theorem invN_succ (l : List EvD) (n : Nat) : invN l (n + 1) = invN l n ++ (invF l n).toList := by
  unfold invN
  rw [List.range_succ, List.filterMap_append]
  cases h : invF l n <;> simp [h]
theorem invN_len (l : List EvD) (n : Nat) : (invN l n).length ≤ n := by
  unfold invN
  refine Nat.le_trans (List.length_filterMap_le _ _) ?_
  simp
def InvRel (w : World) (l : List EvD) (v i : Value) (wr : World) : Prop :=
  ∃ j : Nat, j ≤ l.length ∧ i = .int .i64 j ∧ wr.ownsRow w.heap.size 37 2 v (invN l j).length ((invN l j).flatMap opC2) ∧ Below w.heap.size w wr
def OrdPost (w : World) (l : List OpP) (e : Ending) (w' : World) : Prop := ∃ (A : Option Addr) (c : Nat), e = .returned (.slice A l.length c) ∧ OrdAt w' A l ∧ Below w.heap.size w w'
set_option maxRecDepth 100000 in
set_option maxHeartbeats 2000000 in
theorem rinvoked_any (w : World) (A : Option Addr) (c : Nat) (l : List EvD) (hl : l.length ≤ 1048576) (h : EvsAt w A l) :
    Calls Tryz.prog 8 #[.slice A l.length c] w (OrdPost w (invokedP l)) := by
  have H := Lib.hid h
  clear h
  go_enter Tryz.func8, Tryz.ntmps8
  go_wp2_with fail
  go_loopw [3, 4] (fun v i wr => InvRel w l v i wr) (fun _ i _ => l.length - (intOf i).toNat)
  case atStart => exact ⟨0, by omega, rfl, World.ownsRow_nil _ _ _ _, Below.refl _ _⟩
  case round =>
    obtain ⟨j, hj, rfl, hown, hbw⟩ := hrel
    have HO := Lib.hid hown
    have HB := Lib.hid hbw
    have hsz : w.heap.size ≤ wr.heap.size := hbw.size
    have hln := invN_len l j
    clear hown hbw
    by_cases hlt : j < l.length
    · obtain ⟨e, hx⟩ : ∃ e, l[j]? = some e := ⟨_, List.getElem?_eq_getElem hlt⟩
      obtain ⟨b, off, rfl, hb, hc⟩ := (H.out.below HB.out) (by omega)
      obtain ⟨c0, c1, c2⟩ := ev_cells (hc j e hx)
      have hj0 : (0 : Int) ≤ j := by omega
      have hj1 : (j : Int) < l.length := by omega
      have NX := Lib.hid (invN_succ l j)
      have IF := Lib.hid (show invF l j = if e.ret = false ∧ whenP l e.op false = j then some e.op else none by unfold invF; rw [hx])
      have HX := Lib.hid hx
      clear hx hc
      obtain ⟨th, ix, rt, rs⟩ := e
      simp only at c0 c1 c2
      go_upto_region 5 with fail
      have BR : Hid (Below wr.heap.size wr wr) := Below.refl _ _
      have BD : Hid (Below wr.heap.size wr wr.drew) := (Below.refl _ _).drew
      have KX : Hid (∀ W, Below wr.heap.size wr W → (W.cell? ⟨b, off + j * 11, none⟩ = some (.int .i64 th) ∧ W.cell? ⟨b, off + j * 11 + 1, none⟩ = some (.int .i64 ix))) := fun W hW => ⟨(hW.cell (p := ⟨b, _, none⟩) hb).trans c0, (hW.cell (p := ⟨b, _, none⟩) hb).trans c1⟩
      go_region_held3 (fun W => (W.cell? ⟨b, off + j * 11, none⟩ = some (.int .i64 th) ∧ W.cell? ⟨b, off + j * 11 + 1, none⟩ = some (.int .i64 ix))) ((refine KX.out _ ?_; repeat' (first | (with_reducible exact BR.out) | (with_reducible exact BD.out) | (with_reducible refine Below.drew ?_) | (with_reducible refine balZ ?_ _)))) (fail)
      obtain ⟨W1, hW1⟩ : ∃ W1, W1 = (wr.alloc (.cells #[.int .i64 th, .int .i64 ix] 37)).drew := ⟨_, rfl⟩
      have B1 : Hid (Below wr.heap.size wr W1) := by rw [hW1]; exact (balZ (Below.refl _ _) _).drew
      have C1 : Hid (W1.heap[wr.heap.size]? = some (opBox (th, ix))) := by rw [hW1]; exact (heap_alloc wr _).1
      rw [← hW1]
      have y2 := (B1.out.cell (p := ⟨b, off + j * 11 + 2, none⟩) hb).trans c2
      obtain ⟨x0, x1⟩ := opBox_cells C1.out
      have BW1 := Lib.hid (HB.out.trans (B1.out.mono HB.out.size))
      clear c0 c1 c2 hW1
      cases rt with
      | true =>
        have RR : Hid (InvRel w l u3 (.int .i64 ((j : Int) + 1)) W1) := by
          refine ⟨j + 1, by omega, by go_num, ?_, BW1.out⟩
          rw [NX.out, IF.out, if_neg (by simp)]
          simp only [Option.toList_none, List.append_nil]
          exact row_keep HO.out (fun g hg => B1.out.block g (row_lt HO.out hg))
        go_wp2_with fail
        go_roundw
        case rel => exact RR.out
        case measure => simp [intOf]; omega
      | false =>
        go_wp2_with (go_at_call 24; refine stopAt ?_)
        unfold StopAt
        refine (when_any W1 _ c l hl (H.out.below BW1.out) th ix false).mono ?_
        rintro e w2 ⟨rfl, hb2⟩
        have B2 := Lib.hid (B1.out.trans (hb2.mono B1.out.size))
        have C2 := Lib.hid (opBox_kept C1.out hb2)
        have BW2 := Lib.hid (HB.out.trans (B2.out.mono HB.out.size))
        have lo := when_lo l (th, ix) false
        have hi := when_hi l (th, ix) false
        have IG := Lib.hid IF.out
        generalize hv : whenP l (th, ix) false = v at *
        have HV := Lib.hid hv
        clear hb2 hv y2 x0 x1
        obtain ⟨x0, x1⟩ := opBox_cells C2.out
        by_cases hvj : v = j
        · have IFJ := Lib.hid (show invF l j = some (th, ix) by
            unfold invF
            rw [HX.out]
            exact if_pos ⟨rfl, HV.out.trans hvj⟩)
          have HO2 := Lib.hid (row_keep HO.out (fun g hg => B2.out.block g (row_lt HO.out hg)))
          subst hvj
          go_wp2_with (at_builtin; refine stopAt ?_)
          unfold StopAt
          refine wpList_app 25 37 Tryz.underlying25 _ 2 16 opInfo rfl (by decide) rfl _ _ rfl w.heap.size _ _ _ _ rfl (HO2.out.alloc _) ⟨w2.heap.size, 0, none⟩ 1 1 (opC2 (th, ix)) rfl rfl ?_ ?_ (by have := BW2.out.size; simp; omega) (by unfold maxLen; omega) (by omega) ?_
          · exact opC2_box (heap_alloc w2 _).1
          · have := opC2_one [(th, ix)]
            simpa using this
          intro a3 c3 w3 ho3 hg3
          have O3 := Lib.hid ho3
          have G3 := Lib.hid hg3
          have RR : Hid (InvRel w l (.slice a3 ((invN l j).length + 1) c3) (.int .i64 ((j : Int) + 1)) w3) := by
            refine ⟨j + 1, by omega, by go_num, ?_, BW2.out.trans (grown_below G3.out BW2.out.size (fun k hk => (row_kind HO2.out hk).1))⟩
            rw [NX.out, IFJ.out, List.length_append, List.flatMap_append]
            have := O3.out
            simpa using this
          clear ho3 hg3
          go_wp2_with fail
          go_roundw
          case rel => exact RR.out
          case measure => simp [intOf]; omega
        · have IFJ := Lib.hid (show invF l j = none by
            unfold invF
            rw [HX.out]
            exact if_neg fun h => hvj (HV.out.symm.trans h.2))
          have RR : Hid (InvRel w l u3 (.int .i64 ((j : Int) + 1)) w2) := by
            refine ⟨j + 1, by omega, by go_num, ?_, BW2.out⟩
            rw [NX.out, IFJ.out]
            simp only [Option.toList_none, List.append_nil]
            exact row_keep HO.out (fun g hg => B2.out.block g (row_lt HO.out hg))
          go_wp2_with fail
          go_roundw
          case rel => exact RR.out
          case measure => simp [intOf]; omega
    · have hje : j = l.length := by omega
      have TT := Lib.hid hje
      obtain ⟨A2, c2, hv⟩ := row_form HO.out
      clear hje
      go_wp2_with fail
      go_ret
      subst hv
      have e : invN l j = invokedP l := by rw [TT.out, inv_all]
      rw [e] at HO
      exact ⟨A2, c2, by show Ending.returned (Value.slice A2 _ c2) = _; rw [e], ordAt_of_row HO.out rfl, HB.out⟩
end Go.Proofs.YtbmoehndnbbhcaaGreatDoor
namespace Go.Proofs.YtbmoehndnbbhcaaGreatDoor
set_option linter.unusedVariables false
set_option linter.unusedSimpArgs false
open Go Go.RowKit Go.MapKept
structure SpD where
  inv : Int
  ret : Int
  res : ResF
def ResF.vals (r : ResF) : List Value := [.int .i64 r.err, .bool r.found, .int .u64 r.value, .string r.key, .int .i64 r.count, .int .i64 r.ref, .int .i64 r.root, .bool r.ro]
def SpD.cells (s : SpD) : List Value := .int .i64 s.inv :: .int .i64 s.ret :: s.res.vals
/-- what a record tells of an operation -/
def spanP (l : List EvD) (a : OpP) : SpD := ⟨whenP l a false, whenP l a true, (resultP l a).getD ResF.zero⟩
/-- a thread's spans -/
def SpAt (w : World) (u : Option Addr) (n : Nat) (f : Nat → SpD) : Prop :=
  0 < n → ∃ b off, u = some ⟨b, off, none⟩ ∧ b < w.heap.size ∧ ∀ i, i < n → ∀ j v, (f i).cells[j]? = some v → w.cell? ⟨b, off + i * 10 + j, none⟩ = some v
def SpsAt (w : World) (U : Option Addr) (ts : List (List OpD)) (f : Nat → Nat → SpD) : Prop :=
  0 < ts.length → ∃ b off, U = some ⟨b, off, none⟩ ∧ b < w.heap.size ∧ ∀ (t : Nat) (tt : List OpD), ts[t]? = some tt → ∃ u c, w.cell? ⟨b, off + t, none⟩ = some (.slice u tt.length c) ∧ SpAt w u tt.length (f t)
def RecAt (w : World) (rb : Nat) (ts : List (List OpD)) (f : Nat → Nat → SpD) : Prop :=
  ∃ A c U d, w.heap[rb]? = some (.cells #[.slice A ts.length c, .slice U ts.length d] 82 (0, 0)) ∧ ThrAt w A ts ∧ SpsAt w U ts f
theorem SpAt.below {w W : World} {u : Option Addr} {n : Nat} {f : Nat → SpD} (h : SpAt w u n f) (hB : Below w.heap.size w W) : SpAt W u n f := fun h0 => by
  obtain ⟨b, off, e, hb, hc⟩ := h h0
  exact ⟨b, off, e, Nat.lt_of_lt_of_le hb hB.size, fun i hi j v hj => (hB.cell (p := ⟨b, _, none⟩) hb).trans (hc i hi j v hj)⟩
theorem SpsAt.below {w W : World} {U : Option Addr} {ts : List (List OpD)} {f : Nat → Nat → SpD} (h : SpsAt w U ts f) (hB : Below w.heap.size w W) : SpsAt W U ts f := fun h0 => by
  obtain ⟨b, off, e, hb, hc⟩ := h h0
  exact ⟨b, off, e, Nat.lt_of_lt_of_le hb hB.size, fun t tt ht => by obtain ⟨u, c, e1, e2⟩ := hc t tt ht; exact ⟨u, c, (hB.cell (p := ⟨b, _, none⟩) hb).trans e1, e2.below hB⟩⟩
theorem RecAt.below {w W : World} {rb : Nat} {ts : List (List OpD)} {f : Nat → Nat → SpD} (h : RecAt w rb ts f) (hB : Below w.heap.size w W) : RecAt W rb ts f := by
  obtain ⟨A, c, U, d, h1, h2, h3⟩ := h
  exact ⟨A, c, U, d, (hB.block rb (Array.getElem?_eq_some_iff.1 h1).1).trans h1, h2.below hB, h3.below hB⟩
theorem RecAt.lt {w : World} {rb : Nat} {ts : List (List OpD)} {f : Nat → Nat → SpD} (h : RecAt w rb ts f) : rb < w.heap.size := by
  obtain ⟨A, c, U, d, h1, _⟩ := h
  exact (Array.getElem?_eq_some_iff.1 h1).1
theorem cells_free {W : World} {k : Nat} {cs : Array Value} {T : TypeId} (h : W.heap[k]? = some (.cells cs T (0, 0))) : ∀ j, W.frozen? ⟨k, j, none⟩ = false := fun j => by simp [World.frozen?, h]
theorem sp_cells {W : World} {k : Nat} {u0 u1 u2 u3 u4 u5 u6 u7 u8 u9 : Value} {T : TypeId} (h : W.heap[k]? = some (.cells #[u0, u1, u2, u3, u4, u5, u6, u7, u8, u9] T (0, 0))) :
    W.cell? ⟨k, 0, none⟩ = some u0 ∧ W.cell? ⟨k, 1, none⟩ = some u1 ∧ W.cell? ⟨k, 2, none⟩ = some u2 ∧ W.cell? ⟨k, 3, none⟩ = some u3 ∧ W.cell? ⟨k, 4, none⟩ = some u4 ∧ W.cell? ⟨k, 5, none⟩ = some u5 ∧ W.cell? ⟨k, 6, none⟩ = some u6 ∧ W.cell? ⟨k, 7, none⟩ = some u7 ∧ W.cell? ⟨k, 8, none⟩ = some u8 ∧ W.cell? ⟨k, 9, none⟩ = some u9 :=
  ⟨blk_cell h 0, blk_cell h 1, blk_cell h 2, blk_cell h 3, blk_cell h 4, blk_cell h 5, blk_cell h 6, blk_cell h 7, blk_cell h 8, blk_cell h 9⟩
theorem pair_cells {W : World} {k : Nat} {u0 u1 : Value} {T : TypeId} (h : W.heap[k]? = some (.cells #[u0, u1] T (0, 0))) : W.cell? ⟨k, 0, none⟩ = some u0 ∧ W.cell? ⟨k, 1, none⟩ = some u1 := ⟨blk_cell h 0, blk_cell h 1⟩
set_option maxRecDepth 100000 in
set_option maxHeartbeats 2000000 in
theorem lop_any (w : World) (rb : Nat) (ts : List (List OpD)) (f : Nat → Nat → SpD) (h : RecAt w rb ts f) (ft : ThrFit ts) (t i : Nat) (tt : List OpD) (o : OpD) (ht : ts[t]? = some tt) (ho : tt[i]? = some o) :
    Calls Tryz.prog 22 #[.pointer (some ⟨rb, 0, none⟩), .agg #[.int .i64 t, .int .i64 i]] w fun e w' => e = .returned (.agg #[.int .i64 o.kind, .int .i64 o.handle, .string o.key, .int .u64 o.value, .int .u64 o.expect]) ∧ Below w.heap.size w w' := by
  have htl := (List.getElem?_eq_some_iff.1 ht).1
  have hil := (List.getElem?_eq_some_iff.1 ho).1
  have hl1 := ft.len
  have hl2 := ft.each tt (List.mem_of_getElem? ht)
  have hrl := h.lt
  obtain ⟨A, c, U, d, h1, h2, h3⟩ := h
  obtain ⟨ba, offa, rfl, hba, hca⟩ := h2 (by omega)
  obtain ⟨u, cu, k1, k2⟩ := hca t tt ht
  obtain ⟨bo, offo, rfl, hbo, hco⟩ := k2 (by omega)
  obtain ⟨o0, o1, o2, o3, o4⟩ := hco i o ho
  obtain ⟨r0, r1⟩ := pair_cells h1
  have t0 : (0 : Int) ≤ t := by omega
  have t1 : (t : Int) < ts.length := by omega
  have i0 : (0 : Int) ≤ i := by omega
  have i1 : (i : Int) < tt.length := by omega
  clear h1 h2 h3 hca k2 hco ft ht ho r1
  go_enter Tryz.func22, Tryz.ntmps22
  go_upto_region 1 with fail
  obtain ⟨W0, hW0⟩ : ∃ W0, W0 = (w.alloc (.cells #[.int .i64 t, .int .i64 i] 37)).alloc (.cells #[.int .i64 0, .int .i64 0, .string ⟨#[]⟩, .int .u64 0, .int .u64 0] 60) := ⟨_, rfl⟩
  have BX : Hid (Below w.heap.size w W0) := by rw [hW0]; exact balZ (balZ (Below.refl _ _) _) _
  have KA : Hid (W0.heap[w.heap.size]? = some (opBox (t, i)) ∧ W0.heap[w.heap.size + 1]? = some (.cells #[.int .i64 0, .int .i64 0, .string ⟨#[]⟩, .int .u64 0, .int .u64 0] 60 (0, 0))) := by
    rw [hW0]
    have h1 := (heap_alloc (w.alloc (.cells #[.int .i64 t, .int .i64 i] 37)) (.cells #[.int .i64 0, .int .i64 0, .string ⟨#[]⟩, .int .u64 0, .int .u64 0] 60)).1
    have z : (w.alloc (.cells #[.int .i64 t, .int .i64 i] 37)).heap.size = w.heap.size + 1 := by simp
    rw [z] at h1
    exact ⟨(Below.heap_alloc _ _ _ (by simp)).trans (heap_alloc w _).1, h1⟩
  rw [← hW0]
  obtain ⟨y0, y1⟩ := opBox_cells KA.out.1
  obtain ⟨x0, x1, x2, x3, x4⟩ := op_cells KA.out.2
  have fz := cells_free KA.out.2
  have z0 := (BX.out.cell (p := ⟨rb, 0, none⟩) hrl).trans r0
  have z1 := (BX.out.cell (p := ⟨ba, _, none⟩) hba).trans k1
  have z2 := (BX.out.cell (p := ⟨bo, _, none⟩) hbo).trans o0
  have z3 := (BX.out.cell (p := ⟨bo, _, none⟩) hbo).trans o1
  have z4 := (BX.out.cell (p := ⟨bo, _, none⟩) hbo).trans o2
  have z5 := (BX.out.cell (p := ⟨bo, _, none⟩) hbo).trans o3
  have z6 := (BX.out.cell (p := ⟨bo, _, none⟩) hbo).trans o4
  clear hW0 r0 k1 o0 o1 o2 o3 o4
  go_still_tail 12, (by kernel_rfl)
  change wpList _ _ _ _ _ W0.drew
  go_wp2_with fail
  refine bodyPost_ret (v := .agg #[.int .i64 o.kind, .int .i64 o.handle, .string o.key, .int .u64 o.value, .int .u64 o.expect]) (by simp [results, Tryz.results22, go_sem, x0, x1, x2, x3, x4]) rfl ⟨rfl, ?_⟩
  refine Below.drew ?_
  repeat (refine below_set ?_ (by omega))
  exact BX.out
/-- a span as a value -/
def SpD.val (s : SpD) : Value := .agg #[.int .i64 s.inv, .int .i64 s.ret, .int .i64 s.res.err, .bool s.res.found, .int .u64 s.res.value, .string s.res.key, .int .i64 s.res.count, .int .i64 s.res.ref, .int .i64 s.res.root, .bool s.res.ro]
set_option maxRecDepth 100000 in
set_option maxHeartbeats 2000000 in
theorem lspan_any (w : World) (rb : Nat) (ts : List (List OpD)) (f : Nat → Nat → SpD) (h : RecAt w rb ts f) (ft : ThrFit ts) (t i : Nat) (tt : List OpD) (ht : ts[t]? = some tt) (hil : i < tt.length) :
    Calls Tryz.prog 23 #[.pointer (some ⟨rb, 0, none⟩), .agg #[.int .i64 t, .int .i64 i]] w fun e w' => e = .returned (f t i).val ∧ Below w.heap.size w w' := by
  have htl := (List.getElem?_eq_some_iff.1 ht).1
  have hl1 := ft.len
  have hl2 := ft.each tt (List.mem_of_getElem? ht)
  have hrl := h.lt
  obtain ⟨A, c, U, d, h1, h2, h3⟩ := h
  obtain ⟨ba, offa, rfl, hba, hca⟩ := h3 (by omega)
  obtain ⟨u, cu, k1, k2⟩ := hca t tt ht
  obtain ⟨bo, offo, rfl, hbo, hco⟩ := k2 (by omega)
  have o := fun j v h => hco i hil j v h
  have o0 := o 0 _ rfl
  have o1 := o 1 _ rfl
  have o2 := o 2 _ rfl
  have o3 := o 3 _ rfl
  have o4 := o 4 _ rfl
  have o5 := o 5 _ rfl
  have o6 := o 6 _ rfl
  have o7 := o 7 _ rfl
  have o8 := o 8 _ rfl
  have o9 := o 9 _ rfl
  simp only [Nat.add_zero] at o0
  generalize f t i = s at *
  obtain ⟨r0, r1⟩ := pair_cells h1
  have t0 : (0 : Int) ≤ t := by omega
  have t1 : (t : Int) < ts.length := by omega
  have i0 : (0 : Int) ≤ i := by omega
  have i1 : (i : Int) < tt.length := by omega
  clear o h1 h2 h3 hca k2 hco ft ht r0
  go_enter Tryz.func23, Tryz.ntmps23
  go_upto_region 1 with fail
  obtain ⟨W0, hW0⟩ : ∃ W0, W0 = (w.alloc (.cells #[.int .i64 t, .int .i64 i] 37)).alloc (.cells #[.int .i64 0, .int .i64 0, .int .i64 0, .bool false, .int .u64 0, .string ⟨#[]⟩, .int .i64 0, .int .i64 0, .int .i64 0, .bool false] 63) := ⟨_, rfl⟩
  have BX : Hid (Below w.heap.size w W0) := by rw [hW0]; exact balZ (balZ (Below.refl _ _) _) _
  have KA : Hid (W0.heap[w.heap.size]? = some (opBox (t, i)) ∧ W0.heap[w.heap.size + 1]? = some (.cells #[.int .i64 0, .int .i64 0, .int .i64 0, .bool false, .int .u64 0, .string ⟨#[]⟩, .int .i64 0, .int .i64 0, .int .i64 0, .bool false] 63 (0, 0))) := by
    rw [hW0]
    have h1 := (heap_alloc (w.alloc (.cells #[.int .i64 t, .int .i64 i] 37)) (.cells #[.int .i64 0, .int .i64 0, .int .i64 0, .bool false, .int .u64 0, .string ⟨#[]⟩, .int .i64 0, .int .i64 0, .int .i64 0, .bool false] 63)).1
    have z : (w.alloc (.cells #[.int .i64 t, .int .i64 i] 37)).heap.size = w.heap.size + 1 := by simp
    rw [z] at h1
    exact ⟨(Below.heap_alloc _ _ _ (by simp)).trans (heap_alloc w _).1, h1⟩
  rw [← hW0]
  obtain ⟨y0, y1⟩ := opBox_cells KA.out.1
  obtain ⟨x0, x1, x2, x3, x4, x5, x6, x7, x8, x9⟩ := sp_cells KA.out.2
  have fz := cells_free KA.out.2
  have z0 := (BX.out.cell (p := ⟨rb, 1, none⟩) hrl).trans r1
  have z1 := (BX.out.cell (p := ⟨ba, _, none⟩) hba).trans k1
  have q0 := (BX.out.cell (p := ⟨bo, _, none⟩) hbo).trans o0
  have q1 := (BX.out.cell (p := ⟨bo, _, none⟩) hbo).trans o1
  have q2 := (BX.out.cell (p := ⟨bo, _, none⟩) hbo).trans o2
  have q3 := (BX.out.cell (p := ⟨bo, _, none⟩) hbo).trans o3
  have q4 := (BX.out.cell (p := ⟨bo, _, none⟩) hbo).trans o4
  have q5 := (BX.out.cell (p := ⟨bo, _, none⟩) hbo).trans o5
  have q6 := (BX.out.cell (p := ⟨bo, _, none⟩) hbo).trans o6
  have q7 := (BX.out.cell (p := ⟨bo, _, none⟩) hbo).trans o7
  have q8 := (BX.out.cell (p := ⟨bo, _, none⟩) hbo).trans o8
  have q9 := (BX.out.cell (p := ⟨bo, _, none⟩) hbo).trans o9
  clear hW0 r1 k1 o0 o1 o2 o3 o4 o5 o6 o7 o8 o9
  go_still_tail 12, (by kernel_rfl)
  change wpList _ _ _ _ _ W0.drew
  go_wp2_with fail
  refine bodyPost_ret (v := .agg #[.int .i64 s.inv, .int .i64 s.ret, .int .i64 s.res.err, .bool s.res.found, .int .u64 s.res.value, .string s.res.key, .int .i64 s.res.count, .int .i64 s.res.ref, .int .i64 s.res.root, .bool s.res.ro]) (by simp [results, Tryz.results23, go_sem, x0, x1, x2, x3, x4, x5, x6, x7, x8, x9]) rfl ⟨rfl, ?_⟩
  refine Below.drew ?_
  repeat (refine below_set ?_ (by omega))
  exact BX.out
end Go.Proofs.YtbmoehndnbbhcaaGreatDoor
namespace Go.Proofs.YtbmoehndnbbhcaaGreatDoor
set_option linter.unusedVariables false
set_option linter.unusedSimpArgs false
open Go.RowKit Go.MapKept
theorem number_any (t i : Int) (w : World) :
    Calls Tryz.prog 36 #[.int .i64 t, .int .i64 i] w fun e w' => e = .returned (.int .i64 (numberOf t i)) ∧ w = w' := by
  by_cases h1 : t < 0
  · have X := Lib.hid (show numberOf t i = -1 from if_pos (by omega))
    go_enter Tryz.func36, Tryz.ntmps36
    go_wp2
    go_ret
    exact ⟨ret_int X.out.symm, rfl⟩
  by_cases h2 : 8 ≤ t
  · have X := Lib.hid (show numberOf t i = -1 from if_pos (by omega))
    go_enter Tryz.func36, Tryz.ntmps36
    go_wp2
    go_ret
    exact ⟨ret_int X.out.symm, rfl⟩
  by_cases h3 : i < 0
  · have X := Lib.hid (show numberOf t i = -1 from if_pos (by omega))
    go_enter Tryz.func36, Tryz.ntmps36
    go_wp2
    go_ret
    exact ⟨ret_int X.out.symm, rfl⟩
  by_cases h4 : 16 ≤ i
  · have X := Lib.hid (show numberOf t i = -1 from if_pos (by omega))
    go_enter Tryz.func36, Tryz.ntmps36
    go_wp2
    go_ret
    exact ⟨ret_int X.out.symm, rfl⟩
  · have X := Lib.hid (show numberOf t i = 1 + t * 16 + i from if_neg (by omega))
    go_enter Tryz.func36, Tryz.ntmps36
    go_wp2
    go_ret
    exact ⟨ret_int X.out.symm, rfl⟩
theorem unfit_none (w : World) (bf bm bi : Nat) (F : FamD) (o : OpD) (h : FamIs w bf bm bi F) (hk : o.key.size ≤ maxLen) (hn : alook F.maps o.handle = none) :
    Calls Tryz.prog 62 #[.pointer (some ⟨bf, 0, none⟩), o.val] w fun e w' => e = .returned (.int .i64 5) ∧ Below w.heap.size w w' := by
  obtain ⟨kind, handle, key, value, expect⟩ := o
  unfold OpD.val
  have hlf := h.lt (k := bf) (Or.inl rfl)
  have hlm := h.lt (k := bm) (Or.inr (Or.inl rfl))
  obtain ⟨c0, c1, c2⟩ := h.cell
  have hl := h.look_maps handle true
  simp only [if_true] at hl hn
  rw [hn] at hl
  simp only [outOf, Option.isSome_none] at hl
  obtain ⟨a1, a2, a3⟩ := blocks_alloc hlm
  have hd : ∀ (W : World), W.drew.heap = W.heap := fun _ => rfl
  clear h hn
  go_enter Tryz.func62, Tryz.ntmps62
  go_wp2_with fail
  go_region
  go_wp2_with fail
  go_ret
  exact ⟨rfl, (((Below.refl _ _).alloc (Nat.le_refl _) _).alloc (by simp) _).drew⟩
theorem unfit_some (w : World) (bf bm bi : Nat) (F : FamD) (o : OpD) (d : MapD) (h : FamIs w bf bm bi F) (hk : o.key.size ≤ maxLen) (hn : alook F.maps o.handle = some d) :
    Calls Tryz.prog 62 #[.pointer (some ⟨bf, 0, none⟩), o.val] w fun e w' => e = .returned (.int .i64 (unfitD F o)) ∧ Below w.heap.size w w' := by
  obtain ⟨kind, handle, key, value, expect⟩ := o
  unfold OpD.val
  have hlf := h.lt (k := bf) (Or.inl rfl)
  have hlm := h.lt (k := bm) (Or.inr (Or.inl rfl))
  obtain ⟨c0, c1, c2⟩ := h.cell
  have hl := h.look_maps handle true
  simp only [if_true] at hl hn
  rw [hn] at hl
  simp only [outOf, Option.isSome_some, mapV] at hl
  obtain ⟨a1, a2, a3⟩ := blocks_alloc hlm
  have hd : ∀ (W : World), W.drew.heap = W.heap := fun _ => rfl
  have HN : Hid (unfitD F ⟨kind, handle, key, value, expect⟩ = unfitK kind key d.ro) := by show unfitD _ _ = _; unfold unfitD; rw [hn]
  clear h hn
  generalize hro : d.ro = ro at *
  clear hro
  go_enter Tryz.func62, Tryz.ntmps62
  go_wp2_with fail
  go_region
  go_wp2_with (go_at_call 73; refine (valid_any _ _ hk).mono ?_; rintro e w' ⟨rfl, rfl⟩)
  all_goals
    go_ret
    refine ⟨ret_int ?_, (((Below.refl _ _).alloc (Nat.le_refl _) _).alloc (by simp) _).drew⟩
    rw [HN.out]
    clear HN hl a1 a2 a3 hd c0 c1 c2
    simp_all [unfitK] <;> omega
theorem unfit_any (w : World) (bf bm bi : Nat) (F : FamD) (o : OpD) (h : FamIs w bf bm bi F) (hk : o.key.size ≤ maxLen) :
    Calls Tryz.prog 62 #[.pointer (some ⟨bf, 0, none⟩), o.val] w fun e w' => e = .returned (.int .i64 (unfitD F o)) ∧ Below w.heap.size w w' := by
  cases hn : alook F.maps o.handle with
  | none =>
    refine (unfit_none w bf bm bi F o h hk hn).mono fun e w' ⟨he, hb⟩ => ⟨?_, hb⟩
    rw [he]; unfold unfitD; rw [hn]
  | some d => exact unfit_some w bf bm bi F o d h hk hn
theorem refusal_bad (w : World) (bf bm bi : Nat) (F : FamD) (t i : Int) (o : OpD) (h : FamIs w bf bm bi F) (hk : o.key.size ≤ maxLen) (hb : numberOf t i < 0 ∨ o.kind < 1 ∨ 13 < o.kind) :
    Calls Tryz.prog 41 #[.pointer (some ⟨bf, 0, none⟩), .int .i64 t, .int .i64 i, o.val] w fun e w' => e = .returned (.int .i64 (refusalD F t i o)) ∧ Below w.heap.size w w' := by
  have X := Lib.hid (show refusalD F t i o = 1 from if_pos hb)
  obtain ⟨kind, handle, key, value, expect⟩ := o
  unfold OpD.val
  clear h
  by_cases h1 : numberOf t i < 0
  · go_enter Tryz.func41, Tryz.ntmps41
    go_wp2_with (go_at_call 36; refine (number_any _ _ _).mono ?_; rintro e w' ⟨rfl, rfl⟩)
    go_ret
    exact ⟨ret_int X.out.symm, (Below.refl _ _).alloc (Nat.le_refl _) _⟩
  by_cases h2 : kind < 1
  · go_enter Tryz.func41, Tryz.ntmps41
    go_wp2_with (go_at_call 36; refine (number_any _ _ _).mono ?_; rintro e w' ⟨rfl, rfl⟩)
    go_ret
    exact ⟨ret_int X.out.symm, (Below.refl _ _).alloc (Nat.le_refl _) _⟩
  · have h3 : 13 < kind := by rcases hb with hb | hb | hb <;> first | exact absurd hb h1 | exact absurd hb h2 | exact hb
    clear hb
    go_enter Tryz.func41, Tryz.ntmps41
    go_wp2_with (go_at_call 36; refine (number_any _ _ _).mono ?_; rintro e w' ⟨rfl, rfl⟩)
    go_ret
    exact ⟨ret_int X.out.symm, (Below.refl _ _).alloc (Nat.le_refl _) _⟩
theorem refusal_next (w : World) (bf bm bi : Nat) (F : FamD) (t i : Int) (o : OpD) (h : FamIs w bf bm bi F) (hk : o.key.size ≤ maxLen) (hb : ¬ (numberOf t i < 0 ∨ o.kind < 1 ∨ 13 < o.kind)) (h13 : o.kind = 13) :
    Calls Tryz.prog 41 #[.pointer (some ⟨bf, 0, none⟩), .int .i64 t, .int .i64 i, o.val] w fun e w' => e = .returned (.int .i64 (refusalD F t i o)) ∧ Below w.heap.size w w' := by
  have X := Lib.hid (show refusalD F t i o = (if lostD F t o.handle then 5 else if takenD F (numberOf t i) then 8 else 0) by unfold refusalD; rw [if_neg hb, if_pos (by simp [h13])])
  obtain ⟨kind, handle, key, value, expect⟩ := o
  unfold OpD.val
  simp only at h13 hb X
  subst h13
  have hlf := h.lt (k := bf) (Or.inl rfl)
  have hlm := h.lt (k := bm) (Or.inr (Or.inl rfl))
  have hli := h.lt (k := bi) (Or.inr (Or.inr (Or.inl rfl)))
  obtain ⟨c0, c1, c2⟩ := h.cell
  obtain ⟨a1, a2, a3⟩ := blocks_alloc hlm
  obtain ⟨b1, b2, b3⟩ := blocks_alloc hli
  obtain ⟨k2, k3⟩ := cells_alloc hlf
  have hd := drew_heap
  have hn0 : ¬ numberOf t i < 0 := fun hh => hb (Or.inl hh)
  obtain ⟨x, y, hm⟩ := h.ask_maps (numberOf t i)
  obtain ⟨x1, y1, z1, hi⟩ := h.ask_iters (numberOf t i)
  have hl := h.look_iters handle true
  have T := Lib.hid (show takenD F (numberOf t i) = ((alook F.maps (numberOf t i)).isSome || (alook F.iters (numberOf t i)).isSome) from rfl)
  generalize (alook F.maps (numberOf t i)).isSome = q1 at *
  generalize (alook F.iters (numberOf t i)).isSome = q2 at *
  cases hn : alook F.iters handle with
  | none =>
    have L := Lib.hid (show lostD F t handle = true by unfold lostD; rw [hn])
    rw [hn] at hl
    simp only [if_true, outOf, Option.isSome_none] at hl
    clear hn h hb
    go_enter Tryz.func41, Tryz.ntmps41
    go_wp2_with (go_at_call 36; refine (number_any _ _ _).mono ?_; rintro e w' ⟨rfl, rfl⟩)
    go_region
    go_wp2_with fail
    go_ret
    exact ⟨ret_int (by rw [X.out, L.out]; rfl), (((Below.refl _ _).alloc (Nat.le_refl _) _).alloc (by simp) _).drew⟩
  | some d =>
    obtain ⟨dt, dn, dp⟩ := d
    have L := Lib.hid (show lostD F t handle = (dt != t) by unfold lostD; rw [hn])
    rw [hn] at hl
    simp only [if_true, outOf, itV, Option.isSome_some] at hl
    clear hn h hb
    go_enter Tryz.func41, Tryz.ntmps41
    go_wp2_with (go_at_call 36; refine (number_any _ _ _).mono ?_; rintro e w' ⟨rfl, rfl⟩)
    go_region
    go_wp2_with fail
    all_goals
      go_ret
      refine ⟨ret_int ?_, ?_⟩
      rotate_left
      · first
          | exact (((Below.refl _ _).alloc (Nat.le_refl _) _).alloc (by simp) _).drew
          | exact (((((Below.refl _ _).alloc (Nat.le_refl _) _).alloc (by simp) _).alloc (by simp; omega) _).alloc (by simp; omega) _).drew
      · rw [X.out, L.out, T.out]
        clear X L T hl hm hi a1 a2 a3 b1 b2 b3 hd c0 c1 c2 k2 k3
        simp_all
end Go.Proofs.YtbmoehndnbbhcaaGreatDoor
