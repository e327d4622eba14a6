/- The walk of the parser's mask. -/
import Derived.Test.YtnoeiaicligmiaaDoorSPar
namespace Go.Proofs.YtnoeiaicligmiaaDoor
set_option linter.unusedVariables false
set_option linter.unusedSimpArgs false
open Go Go.RowKit
def LinePost (B : Nat) (w0 : World) (P : Nat) (r : Option PS) (e : Ending) (w' : World) : Prop :=
  match r with
  | some st' => e = .returned (.bool true) ∧ Par B w0 w' P st'
  | none => e = .returned (.bool false) ∧ Below B w0 w'
theorem LinePost.yes {B : Nat} {w0 : World} {P : Nat} {r : Option PS} {st' : PS} {w' : World} (hr : r = some st') (h : Par B w0 w' P st') : LinePost B w0 P r (.returned (.bool true)) w' := by rw [hr]; exact ⟨rfl, h⟩
theorem LinePost.no {B : Nat} {w0 : World} {P : Nat} {r : Option PS} {w' : World} (hr : r = none) (h : Below B w0 w') : LinePost B w0 P r (.returned (.bool false)) w' := by rw [hr]; exact ⟨rfl, h⟩
/-- words in memory -/
def WordsAt (w : World) (b off : Nat) (ws : List (List UInt8)) : Prop :=
  (∀ x ∈ ws, x.length ≤ 1048576) ∧ ∀ (i : Nat) (x : List UInt8), ws[i]? = some x → w.cell? ⟨b, off + i, none⟩ = some (.string ⟨x.toArray⟩)
theorem takeL_mask {st : PS} (hd : st.done = false) (hm : st.masked = false) (a b : List UInt8) :
    takeL st [a, b] = if a = maskW then (match readNat b with | some v => some { st with scr := { st.scr with mask := v }, masked := true } | none => none) else none := by
  unfold takeL
  rw [if_neg (by simp [hd]), if_pos (by simp [hm])]
  rfl
theorem takeL_mask2 {st : PS} (hd : st.done = false) (hm : st.masked = false) (ws : List (List UInt8)) (h : ws.length ≠ 2) : takeL st ws = none := by
  unfold takeL
  rw [if_neg (by simp [hd]), if_pos (by simp [hm])]
  split
  · simp at h
  · rfl
theorem blk_frozen {w : World} {g : Nat} {t : TypeId} {cs : Array Value} (h : w.heap[g]? = some (.cells cs t (0, 0))) (i : Nat) : w.frozen? ⟨g, i, none⟩ = false := by
  simp [World.frozen?, h]
theorem str_ne {a : List UInt8} {c : ByteArray} (h : a ≠ c.data.toList) : (ByteArray.mk a.toArray).toList ≠ c.toList := by
  rw [Lib.toList_data, Lib.toList_data]; exact h
set_option maxHeartbeats 1000000 in
theorem mask_any (B : Nat) (w0 w : World) (P : Nat) (st : PS) (vt vp : Value) (us : List Value) (h : ParAt B w0 w P st vt vp us) (hd : st.done = false) (hm : st.masked = false) (ws : List (List UInt8)) (b off cap : Nat) (hw : WordsAt w b off ws) (hn : ws.length ≤ 1048577) :
    Calls Tryd.prog 51 #[.pointer (some ⟨P, 0, none⟩), .slice (some ⟨b, off, none⟩) ws.length cap] w (LinePost B w0 P (takeL st ws)) := by
  by_cases h2 : ws.length = 2
  · obtain ⟨x, y, rfl⟩ : ∃ x y, ws = [x, y] := by
      match ws, h2 with
      | [x, y], _ => exact ⟨x, y, rfl⟩
    have T := Lib.hid (takeL_mask hd hm x y)
    have c0 : w.cell? ⟨b, off, none⟩ = some (.string ⟨x.toArray⟩) := hw.2 0 x rfl
    have c1 := hw.2 1 y rfl
    have hy : (⟨y.toArray⟩ : ByteArray).size ≤ 4611686018427387904 := by
      have := hw.1 y (by simp)
      simp [ByteArray.size]; omega
    have H := Lib.hid h
    clear hw h hd hm h2 hn
    by_cases hx : x = maskW
    · subst hx
      rw [if_pos rfl] at T
      have U := Lib.hid (unsigned_any ⟨y.toArray⟩ w hy)
      rw [show (ByteArray.mk y.toArray).data.toList = y by simp] at U
      cases hr : readNat y with
      | none =>
        rw [hr] at T
        rw [natR_none hr] at U
        clear hr
        go_enter Tryd.func51, Tryd.ntmps51
        go_wp2_with fail
        refine U.out.mono ?_
        rintro e w1 ⟨rfl, hb1⟩
        have H1 := Lib.hid (H.out.above hb1)
        clear hb1
        have hz := H1.out.lt
        have y0 : w1.cell? ⟨P, 0, none⟩ = some (.int .u64 st.scr.mask) := H1.out.cell 0
        have y3 : w1.cell? ⟨P, 3, none⟩ = some (.bool st.masked) := H1.out.cell 3
        have f0 : w1.frozen? ⟨P, 0, none⟩ = false := blk_frozen H1.out.par 0
        have f3 : w1.frozen? ⟨P, 3, none⟩ = false := blk_frozen H1.out.par 3
        go_wp2_with fail
        go_ret
        exact LinePost.no T.out ((H1.out.below.setCell (p := ⟨P, 0, none⟩) H1.out.base _).setCell (p := ⟨P, 3, none⟩) H1.out.base _)
      | some v =>
        rw [hr] at T
        rw [natR_some hr] at U
        clear hr
        go_enter Tryd.func51, Tryd.ntmps51
        go_wp2_with fail
        refine U.out.mono ?_
        rintro e w1 ⟨rfl, hb1⟩
        have H1 := Lib.hid (H.out.above hb1)
        clear hb1
        have hz := H1.out.lt
        have y0 : w1.cell? ⟨P, 0, none⟩ = some (.int .u64 st.scr.mask) := H1.out.cell 0
        have y3 : w1.cell? ⟨P, 3, none⟩ = some (.bool st.masked) := H1.out.cell 3
        have f0 : w1.frozen? ⟨P, 0, none⟩ = false := blk_frozen H1.out.par 0
        have f3 : w1.frozen? ⟨P, 3, none⟩ = false := blk_frozen H1.out.par 3
        go_wp2_with fail
        go_ret
        refine LinePost.yes T.out ⟨vt, vp, us, H1.out.put rfl rfl ?_ ?_ ?_⟩
        · exact heap_set (j := 3) (heap_set (j := 0) H1.out.par _) _
        · intro k hk
          rw [Below.heap_setCell _ _ _ _ hk, Below.heap_setCell _ _ _ _ hk]
        · exact ((Below.refl _ _).setCell (p := ⟨P, 0, none⟩) H1.out.base _).setCell (p := ⟨P, 3, none⟩) H1.out.base _
    · rw [if_neg hx] at T
      have s1 : (x == [109, 97, 115, 107]) = false := by simpa [maskW] using hx
      go_enter Tryd.func51, Tryd.ntmps51
      go_wp2_with fail
      go_ret
      exact LinePost.no T.out H.out.below
  · have T := Lib.hid (takeL_mask2 hd hm ws h2)
    have hb2 : ((ws.length : Int) != 2) = true := by simp; omega
    have H := Lib.hid h
    clear h hd hm hw
    go_enter Tryd.func51, Tryd.ntmps51
    go_wp2_with fail
    go_ret
    exact LinePost.no T.out H.out.below
end Go.Proofs.YtnoeiaicligmiaaDoor
