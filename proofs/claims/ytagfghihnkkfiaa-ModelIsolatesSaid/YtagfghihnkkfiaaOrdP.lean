/- What the operations of ModelOrder do: a map, its frozen copy and an iterator. No walk in sight. -/
import Derived.Test.YtagfghihnkkfiaaKeysP
import Derived.Test.YtagfghihnkkfiaaModJ
namespace Go.Proofs.Ytagfghihnkkfiaa
set_option linter.unusedVariables false
set_option linter.unusedSimpArgs false
open Go.RowKit Go.MapKept
theorem below_drewN {B : Nat} {w w' : World} (h : Below B w w') (n : Nat) : Below B w (w'.drewN n) := ⟨h.os, h.tape, h.output, h.size, h.block⟩
def famF (m : Int) (L : List (ByteArray × Int)) : AFam := ⟨m, [(0, ⟨L, false⟩), (10, ⟨L, true⟩)], []⟩
def famI (m : Int) (L : List (ByteArray × Int)) (p : Int) : AFam := ⟨m, [(0, ⟨L, false⟩), (10, ⟨L, true⟩)], [(11, ⟨0, 10, p⟩)]⟩
def opE (kind handle : Int) : OpD := ⟨kind, handle, ⟨#[]⟩, 0, 0⟩
theorem num_9 : numberOf 0 9 = 10 := by decide
theorem num_10 : numberOf 0 10 = 11 := by decide
theorem num_11 : numberOf 0 11 = 12 := by decide
theorem num_12 : numberOf 0 12 = 13 := by decide
theorem num_13 : numberOf 0 13 = 14 := by decide
theorem ord_freeze (m : Int) (L : List (ByteArray × Int)) : applyA (fam1 m L) 0 9 (opE 9 0) = (famF m L, { found := true }) := by
  have hz : refusalA (fam1 m L) 0 9 (opE 9 0) = 0 := by
    unfold refusalA
    rw [num_9]
    simp [opE, unfitA, fam1, alook, unfitK, takenA]
  rw [applyA_do (d := ⟨L, false⟩) hz (by simp [opE]) (by simp [opE, fam1, alook])]
  simp [doA, opE, num_9, fam1, aset, famF]
theorem ord_iter (m : Int) (L : List (ByteArray × Int)) : applyA (famF m L) 0 10 (opE 12 10) = (famI m L 0, { found := true }) := by
  have hz : refusalA (famF m L) 0 10 (opE 12 10) = 0 := by
    unfold refusalA
    rw [num_10]
    simp [opE, unfitA, famF, alook, unfitK, takenA]
  rw [applyA_do (d := ⟨L, true⟩) hz (by simp [opE]) (by simp [opE, famF, alook])]
  simp [doA, opE, num_10, famF, aset, famI]
theorem ord_lost (m : Int) (L : List (ByteArray × Int)) (p i : Int) (h0 : 0 ≤ i) (h1 : i < 16) : applyA (famI m L p) 1 i (opE 13 11) = (famI m L p, { err := 5 }) := by
  have hn : numberOf 1 i = 17 + i := by
    unfold numberOf
    rw [if_neg (by omega)]
    omega
  have hz : refusalA (famI m L p) 1 i (opE 13 11) = 5 := by
    unfold refusalA
    rw [hn, if_neg (by simp [opE]; omega)]
    simp [opE, lostA, famI, alook]
  rw [applyA_err (by rw [hz]; decide), hz]
theorem ord_ok (m : Int) (L : List (ByteArray × Int)) (p i n : Int) (hn : numberOf 0 i = n) (h0 : 11 < n) : refusalA (famI m L p) 0 i (opE 13 11) = 0 := by
  have h1 : ¬ (0 : Int) = n := by omega
  have h2 : ¬ (10 : Int) = n := by omega
  have h3 : ¬ (11 : Int) = n := by omega
  unfold refusalA
  rw [hn, if_neg (by simp [opE]; omega)]
  simp [opE, lostA, famI, alook, takenA, h1, h2, h3]
theorem ord_next (m : Int) (L : List (ByteArray × Int)) (p : Nat) (x : ByteArray × Int) (hx : (sortedOf m L)[p]? = some x) : applyA (famI m L p) 0 11 (opE 13 11) = (famI m L (p + 1), { found := true, key := x.1, value := x.2 }) := by
  have hlt : p < L.length := by
    have := (List.getElem?_eq_some_iff.1 hx).1
    rw [sortedOf_length] at this
    exact this
  rw [applyA_next (ord_ok m L p 11 12 num_11 (by omega)) (by simp [opE])]
  have hc : ¬ (L.length : Int) ≤ p := by omega
  simp [nextA, opE, famI, alook, aset, hx, Int.toNat_natCast]
  omega
theorem ord_end (m : Int) (L : List (ByteArray × Int)) : applyA (famI m L L.length) 0 12 (opE 13 11) = (famI m L L.length, {}) := by
  rw [applyA_next (ord_ok m L L.length 12 13 num_12 (by omega)) (by simp [opE])]
  simp [nextA, opE, famI, alook]
theorem ord_size (m : Int) (L : List (ByteArray × Int)) (p : Int) : applyA (famI m L p) 0 13 (opE 11 10) = (famI m L p, { count := L.length }) := by
  have hz : refusalA (famI m L p) 0 13 (opE 11 10) = 0 := by
    unfold refusalA
    rw [num_13]
    simp [opE, unfitA, famI, alook, unfitK, takenA]
  rw [applyA_do (d := ⟨L, true⟩) hz (by simp [opE]) (by simp [opE, famI, alook])]
  simp [doA, opE]
theorem okF {m : Int} {L : List (ByteArray × Int)} (h : OkA 10 (fam1 m L)) : OkA 10 (famF m L) := by
  have hk := h.keys (0, ⟨L, false⟩) (by simp [fam1])
  have hl := h.lens (0, ⟨L, false⟩) (by simp [fam1])
  exact ⟨h.m0, h.m1, by simp [famF]; exact fun a b hm => hk (a, b) hm, by simp [famF]; exact hl, by simp [famF], by simp [famF], by simp [famF]⟩
theorem okI {m : Int} {L : List (ByteArray × Int)} (h : OkA 10 (fam1 m L)) (p : Int) (h0 : 0 ≤ p) (h1 : p ≤ 10) : OkA 10 (famI m L p) := by
  have hk := h.keys (0, ⟨L, false⟩) (by simp [fam1])
  have hl := h.lens (0, ⟨L, false⟩) (by simp [fam1])
  exact ⟨h.m0, h.m1, by simp [famI]; exact fun a b hm => hk (a, b) hm, by simp [famI]; exact hl, by simp [famI]; exact ⟨h0, h1⟩, by simp [famI, alook], by simp [famI]⟩
theorem ltP_chain {m : Int} {L : List (ByteArray × Int)} (hn : (L.map (·.1)).Nodup) {p : Nat} {x y : ByteArray × Int} (hx : (sortedOf m L)[p]? = some x) (hy : (sortedOf m L)[p + 1]? = some y) : ltP m x y = true := by
  obtain ⟨h1, e1⟩ := List.getElem?_eq_some_iff.1 hx
  obtain ⟨h2, e2⟩ := List.getElem?_eq_some_iff.1 hy
  have hs := List.pairwise_iff_getElem.1 (sortedOf_sorted m L) p (p + 1) h1 h2 (by omega)
  rw [e1, e2] at hs
  cases hl : ltP m x y with
  | true => rfl
  | false =>
    have hk := ltP_total hl hs
    have hnn : ((sortedOf m L).map (·.1)).Nodup := ((sortedOf_perm m L).map (·.1)).nodup_iff.2 hn
    have := (List.nodup_iff_pairwise_ne.1 hnn)
    have hq := List.pairwise_iff_getElem.1 hnn p (p + 1) (by simpa using h1) (by simpa using h2) (by omega)
    simp only [List.getElem_map, e1, e2] at hq
    exact absurd hk hq
end Go.Proofs.Ytagfghihnkkfiaa
