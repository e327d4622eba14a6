/- The walk of the parser's picks. -/
import Derived.Test.YtnoeiaicligmiaaDoorSOpG
namespace Go.Proofs.YtnoeiaicligmiaaDoor
set_option linter.unusedVariables false
set_option linter.unusedSimpArgs false
open Go Go.RowKit
theorem wpList_ints_make (w : World) {ops : Array Oper} {rest : List Oper} {o : Oper} {a : Act} {Q : Exit → Act → World → Prop} (hgd : o.guard = none) (l c : Operand) (ho : o.op = Op.makeSlice 23 l c)
    (kl kc : IntKind) (C : Int) (n : Nat) (hl : a.eval l = .int kl 0) (hc : a.eval c = .int kc C) (hC : C = (n : Int)) (hn : n ≤ 1048577)
    (h : ∀ w', w'.ownsRow w.heap.size 3 1 (.slice (some ⟨w.heap.size, 0, none⟩) 0 n) 0 [] → Below w.heap.size w w' → wpList Tryd.prog ops Q rest (a.put o.dst (.slice (some ⟨w.heap.size, 0, none⟩) 0 n)) w') : wpList Tryd.prog ops Q (o :: rest) a w := by
  obtain ⟨i0, hi, hz0, hz1, hz2⟩ := info_parts int_info
  refine wpList_make_own w hgd l c 23 ho w.heap.size 3 i0 (.int .i64 0) 1 Tryd.underlying23 hi hz0 hz1 kl kc C n hl hc hC (by rw [hz2]; omega) (by unfold maxLen; omega) (Nat.le_refl _) ?_
  intro w' ho hg
  exact h w' ho (below_new hg)
/-- the parser's picks are another row -/
theorem ParAt.repick {B : Nat} {w0 w : World} {P : Nat} {st : PS} {vt vp v' : Value} {us : List Value} (h : ParAt B w0 w P st vt vp us) (ps : List Int) (hown : w.ownsRow B 3 1 v' ps.length (ps.map (.int .i64))) :
    ParAt B w0 (w.setCell ⟨P, 2, none⟩ v') P { st with scr := { st.scr with picks := ps } } vt v' us := by
  have tr : ∀ {e : TypeId} {size n : Nat} {v : Value} {xs : List Value}, w.ownsRow B e size v n xs → e ≠ 66 → (w.setCell ⟨P, 2, none⟩ v').ownsRow B e size v n xs := fun {e size n v xs} hr hp => ownsRow_setCell_other hr (row_ne hr h.par (Ne.symm hp)) _
  refine ⟨h.base, heap_set (j := 2) h.par v', tr h.thr (by decide), h.hus, fun i u t hu ht => tr (h.ops i u t hu ht) (by decide), h.dist, tr hown (by decide), h.below.setCell (p := ⟨P, 2, none⟩) h.base _, ?_⟩
  have := h.size
  simp [World.setCell]
  omega
theorem readInts_take {ws : List (List UInt8)} {k : Nat} {x : List UInt8} {l : List Int} {n : Int} (h : readInts (ws.take k) = some l) (hk : ws[k]? = some x) (hn : readInt x = some n) : readInts (ws.take (k + 1)) = some (l ++ [n]) := by
  induction ws generalizing k l with
  | nil => simp at hk
  | cons a r ih =>
    cases k with
    | zero =>
      simp only [List.take_zero, readInts, Option.some.injEq] at h
      simp only [List.getElem?_cons_zero, Option.some.injEq] at hk
      subst hk h
      simp [readInts, hn]
    | succ k =>
      simp only [List.take_succ_cons, readInts] at h ⊢
      cases ha : readInt a with
      | none => rw [ha] at h; simp at h
      | some y =>
        cases hr : readInts (r.take k) with
        | none => rw [ha, hr] at h; simp at h
        | some l' =>
          rw [ha, hr] at h
          simp only [Option.some.injEq] at h
          subst h
          rw [ih hr (by simpa using hk)]
          rfl
theorem readInts_bad {ws : List (List UInt8)} {k : Nat} {x : List UInt8} (hk : ws[k]? = some x) (hn : readInt x = none) : readInts ws = none := by
  induction ws generalizing k with
  | nil => simp at hk
  | cons a r ih =>
    cases k with
    | zero =>
      simp only [List.getElem?_cons_zero, Option.some.injEq] at hk
      subst hk
      simp [readInts, hn]
    | succ k =>
      simp only [readInts]
      rw [ih (by simpa using hk)]
      cases readInt a <;> rfl
theorem readInts_len {ws : List (List UInt8)} {l : List Int} (h : readInts ws = some l) : l.length = ws.length := by
  induction ws generalizing l with
  | nil => simp only [readInts, Option.some.injEq] at h; subst h; rfl
  | cons a r ih =>
    simp only [readInts] at h
    cases ha : readInt a with
    | none => rw [ha] at h; simp at h
    | some y =>
      cases hr : readInts r with
      | none => rw [ha, hr] at h; simp at h
      | some l' =>
        rw [ha, hr] at h
        simp only [Option.some.injEq] at h
        subst h
        simp [ih hr]
/-- words in a block of strings -/
def WordsIn (w : World) (b off : Nat) (ws : List (List UInt8)) : Prop :=
  0 < ws.length → (∃ cs, w.heap[b]? = some (.cells cs 9 (0, 0))) ∧ ∀ (i : Nat) (x : List UInt8), ws[i]? = some x → w.cell? ⟨b, off + i, none⟩ = some (.string ⟨x.toArray⟩)
def picksR (st : PS) (ws : List (List UInt8)) : Option PS := match readInts ws with
  | some l => some { st with scr := { st.scr with picks := l }, done := true }
  | none => none
theorem picksR_some {st : PS} {ws : List (List UInt8)} {l : List Int} (h : readInts ws = some l) : picksR st ws = some { st with scr := { st.scr with picks := l }, done := true } := by unfold picksR; rw [h]
theorem picksR_none {st : PS} {ws : List (List UInt8)} (h : readInts ws = none) : picksR st ws = none := by unfold picksR; rw [h]
def PicksRel (B : Nat) (w0 : World) (P : Nat) (st : PS) (ws : List (List UInt8)) (b : Nat) (wb : Option Obj) (i : Value) (wr : World) : Prop :=
  ∃ (k : Nat) (l : List Int), k ≤ ws.length ∧ i = .int .i64 k ∧ readInts (ws.take k) = some l ∧ Par B w0 wr P { st with scr := { st.scr with picks := l } } ∧ (0 < ws.length → wr.heap[b]? = wb)
set_option maxRecDepth 100000 in
set_option maxHeartbeats 2000000 in
theorem picks_any (B : Nat) (w0 w : World) (P : Nat) (st : PS) (vt vp : Value) (us : List Value) (h : ParAt B w0 w P st vt vp us) (ws : List (List UInt8)) (A : Option Addr) (b off cap : Nat) (hA : 0 < ws.length → A = some ⟨b, off, none⟩) (hx : ∀ x ∈ ws, x.length ≤ 1048576) (hw : WordsIn w b off ws) (hn : ws.length ≤ 1048577) :
    Calls Tryd.prog 52 #[.pointer (some ⟨P, 0, none⟩), .slice A ws.length cap] w (LinePost B w0 P (picksR st ws)) := by
  have H := Lib.hid h
  have HA := Lib.hid hA
  have HW := Lib.hid hw
  have HX := Lib.hid hx
  clear h hA hw hx
  go_enter Tryd.func52, Tryd.ntmps52
  go_wp2_with ((refine wpList_ints_make _ rfl _ _ rfl .i64 .i64 _ ws.length rfl rfl ?hC ?hn ?_); (case hC => rfl); (case hn => omega); intro w1 ho1 hb1; (have H1 := Lib.hid (H.out.above hb1)); (have O1 := Lib.hid ho1); (have B1 := Lib.hid hb1); (have y2 : w1.cell? ⟨P, 2, none⟩ = some vp := H1.out.cell 2); (have f2 : w1.frozen? ⟨P, 2, none⟩ = false := blk_frozen H1.out.par 2); clear ho1 hb1)
  have hbP : 0 < ws.length → b ≠ P := fun h0 => by
    obtain ⟨⟨cs, hcs⟩, _⟩ := HW.out h0
    intro e
    have := H.out.par
    rw [← e, hcs] at this
    simp [parO] at this
  have hbz : 0 < ws.length → b < w.heap.size := fun h0 => by
    obtain ⟨⟨cs, hcs⟩, _⟩ := HW.out h0
    exact (Array.getElem?_eq_some_iff.1 hcs).1
  have BP := Lib.hid hbP
  have BZ := Lib.hid hbz
  have S0 := Lib.hid (H1.out.repick [] (row_le O1.out H.out.size))
  clear hbP hbz y2 f2 O1
  go_loopw [18] (fun i wr => PicksRel B w0 P st ws b w.heap[b]? i wr) (fun i _ => ws.length - (intOf i).toNat)
  case atStart =>
    refine ⟨0, [], by omega, rfl, rfl, ⟨_, _, _, S0.out⟩, fun h0 => ?_⟩
    rw [Below.heap_setCell _ _ _ _ (BP.out h0), B1.out.block b (BZ.out h0)]
  case round =>
    clear S0 H1 B1
    obtain ⟨k, l, hk, rfl, hl, ⟨vt', vp', us', hp⟩, hbk⟩ := hrel
    have HL := Lib.hid hl
    have HP := Lib.hid hp
    have HB := Lib.hid hbk
    clear hl hp hbk
    by_cases hlt : k < ws.length
    · have h0 : 0 < ws.length := by omega
      obtain rfl := HA.out h0
      obtain ⟨x, hx⟩ : ∃ x, ws[k]? = some x := ⟨_, List.getElem?_eq_getElem hlt⟩
      have hc := (World.cell?_of_block (a := ⟨b, off + k, none⟩) (HB.out h0)).trans ((HW.out h0).2 k x hx)
      have hxs : (⟨x.toArray⟩ : ByteArray).size ≤ 4611686018427387904 := by
        have := HX.out x (List.mem_of_getElem? hx)
        simp [ByteArray.size]; omega
      have S := Lib.hid (signed_any ⟨x.toArray⟩ wr hxs)
      rw [show (ByteArray.mk x.toArray).data.toList = x by simp] at S
      have hj0 : (0 : Int) ≤ k := by omega
      have hj1 : (k : Int) < ws.length := by omega
      have hll : l.length ≤ 1048577 := by
        rw [readInts_len HL.out, List.length_take]; omega
      have HX1 := Lib.hid hx
      clear hx
      cases hr : readInt x with
      | none =>
        rw [intR_none hr] at S
        have E := Lib.hid (picksR_none (st := st) (readInts_bad HX1.out hr))
        clear hr
        go_wp2_with fail
        refine S.out.mono ?_
        rintro e w2 ⟨rfl, hb2⟩
        have B2 := Lib.hid hb2
        clear hb2
        go_wp2_with fail
        go_ret
        exact LinePost.no E.out (HP.out.below.trans (B2.out.mono HP.out.size))
      | some n =>
        rw [intR_some hr] at S
        have E := Lib.hid (readInts_take HL.out HX1.out hr)
        clear hr
        go_wp2_with fail
        refine S.out.mono ?_
        rintro e w2 ⟨rfl, hb2⟩
        have B2 := Lib.hid hb2
        have H2 := Lib.hid (HP.out.above hb2)
        clear hb2 hc
        obtain ⟨a2, c2, hvp⟩ := row_form H2.out.pks
        simp only at hvp
        subst hvp
        have y2 : w2.cell? ⟨P, 2, none⟩ = some (.slice a2 l.length c2) := H2.out.cell 2
        have f2 : w2.frozen? ⟨P, 2, none⟩ = false := blk_frozen H2.out.par 2
        have hz2 := H2.out.lt
        go_wp2_with (at_builtin; (refine wpList_one_new 23 3 Tryd.underlying23 _ 8 int_info rfl rfl _ _ rfl B _ _ _ _ rfl H2.out.pks (.int .i64 n) rfl rfl H2.out.size ?hm ?hlen ?_); (case hm => (unfold maxLen; simp only; omega)); (case hlen => (simp only; omega)); intro a3 c3 w3 ho3 hg3; (have O3 := Lib.hid ho3); (have G3 := Lib.hid hg3); (have y3 : w3.cell? ⟨P, 2, none⟩ = some (.slice a2 l.length c2) := (World.cell?_of_block (grown_block hg3 hz2 (row_ne H2.out.pks H2.out.par (by decide)))).trans y2); (have f3 : w3.frozen? ⟨P, 2, none⟩ = false := (World.frozen?_of_block (grown_block hg3 hz2 (row_ne H2.out.pks H2.out.par (by decide)))).trans f2); clear ho3 hg3)
        refine ⟨⟨k + 1, l ++ [n], by omega, by go_num, E.out, ⟨_, _, _, H2.out.pick _ G3.out n O3.out⟩, fun h1 => ?_⟩, by simp [intOf]; omega⟩
        obtain ⟨⟨cs, hcs⟩, _⟩ := HW.out h1
        have hb2 : w2.heap[b]? = some (.cells cs 9 (0, 0)) := by
          rw [B2.out.block b (by have := HB.out h1; rw [hcs] at this; exact (Array.getElem?_eq_some_iff.1 this).1), HB.out h1, hcs]
        rw [Below.heap_setCell _ _ _ _ (BP.out h1), grown_block G3.out (Array.getElem?_eq_some_iff.1 hb2).1 (row_ne H2.out.pks hb2 (by decide)), hb2, hcs]
    · obtain rfl : k = ws.length := by omega
      rw [List.take_length] at HL
      have E := Lib.hid (picksR_some (st := st) HL.out)
      have y4 : wr.cell? ⟨P, 4, none⟩ = some (.bool st.done) := HP.out.cell 4
      have f4 : wr.frozen? ⟨P, 4, none⟩ = false := blk_frozen HP.out.par 4
      go_wp2_with fail
      go_ret
      refine LinePost.yes E.out ⟨_, _, _, HP.out.put rfl rfl (heap_set (j := 4) HP.out.par _) (fun k hk => Below.heap_setCell _ _ _ _ hk) ((Below.refl _ _).setCell (p := ⟨P, 4, none⟩) HP.out.base _)⟩
end Go.Proofs.YtnoeiaicligmiaaDoor
