/- What the operations of ModelKeys do to a family with one map. No walk in sight. What the operations of ModelOrder do: a map, its frozen copy and an iterator. No walk in sight. Walks: two lists of pairs held against each other; two lists of numbers. -/
import Derived.Test.YtagfghihnkkfiaaModQ
import Derived.Test.YtagfghihnkkfiaaTape
import Derived.Test.YtagfghihnkkfiaaModJ
import Derived.Deep.LoopGhost
namespace Go.Proofs.Ytagfghihnkkfiaa
set_option linter.unusedVariables false
set_option linter.unusedSimpArgs false
open Go.RowKit Go.MapKept
def fam1 (m : Int) (L : List (ByteArray × Int)) : AFam := ⟨m, [(0, ⟨L, false⟩)], []⟩
theorem fam1_free (m : Int) (L : List (ByteArray × Int)) (i : Int) (h0 : 0 ≤ i) (h1 : i < 16) (o : OpD) (hh : o.handle = 0) (k0 : 1 ≤ o.kind) (k1 : o.kind ≤ 7) (hk : o.key.size ≤ 64) : refusalA (fam1 m L) 0 i o = 0 := by
  have hn : numberOf 0 i = 1 + i := by
    unfold numberOf
    rw [if_neg (by omega)]
    omega
  have ht : takenA (fam1 m L) (1 + i) = false := by
    have : ¬ (0 : Int) = 1 + i := by omega
    simp [takenA, fam1, alook, this]
  have hu : unfitA (fam1 m L) o = 0 := by
    unfold unfitA
    have e : alook (fam1 m L).maps o.handle = some ⟨L, false⟩ := by rw [hh]; simp [fam1, alook]
    rw [e]
    show unfitK o.kind o.key false = 0
    unfold unfitK
    rw [if_neg (by omega)]
    split
    · rfl
    · split
      · rename_i hx
        simp only [Bool.or_eq_true, beq_iff_eq] at hx
        omega
      · rfl
  unfold refusalA
  rw [hn, if_neg (by omega), if_neg (by simp; omega), hu, ht]
  rfl
theorem fam1_do {m : Int} {L : List (ByteArray × Int)} {i : Int} {o : OpD} (hz : refusalA (fam1 m L) 0 i o = 0) (hh : o.handle = 0) (k1 : o.kind ≤ 7) : applyA (fam1 m L) 0 i o = doA (fam1 m L) 0 i o ⟨L, false⟩ :=
  applyA_do hz (by omega) (by rw [hh]; simp [fam1, alook])
theorem fam1_set (m : Int) (L L' : List (ByteArray × Int)) : ({ fam1 m L with maps := aset (fam1 m L).maps 0 ⟨L', false⟩ } : AFam) = fam1 m L' := by
  simp [fam1, aset]
theorem one_insert (m : Int) (L : List (ByteArray × Int)) (i : Int) (h0 : 0 ≤ i) (h1 : i < 16) (k : ByteArray) (v e : Int) (hk : k.size ≤ 64) :
    applyA (fam1 m L) 0 i ⟨1, 0, k, v, e⟩ = (fam1 m (aset L k v), { found := (alook L k).isSome, value := (alook L k).getD 0, count := 1 }) := by
  rw [fam1_do (fam1_free m L i h0 h1 _ rfl (by simp) (by simp) hk) rfl (by simp)]
  simp only [doA, setV, setR, permK]
  rw [if_pos (by decide)]
  simp [fam1_set]
theorem one_look (m : Int) (L : List (ByteArray × Int)) (i : Int) (h0 : 0 ≤ i) (h1 : i < 16) (k : ByteArray) (v e : Int) (hk : k.size ≤ 64) :
    applyA (fam1 m L) 0 i ⟨7, 0, k, v, e⟩ = (fam1 m L, { found := (alook L k).isSome, value := (alook L k).getD 0 }) := by
  rw [fam1_do (fam1_free m L i h0 h1 _ rfl (by simp) (by simp) hk) rfl (by simp)]
  simp [doA]
theorem one_look_some (m : Int) (L : List (ByteArray × Int)) (i : Int) (h0 : 0 ≤ i) (h1 : i < 16) (k : ByteArray) (v e x : Int) (hk : k.size ≤ 64) (hx : alook L k = some x) :
    applyA (fam1 m L) 0 i ⟨7, 0, k, v, e⟩ = (fam1 m L, { found := true, value := x }) := by
  rw [one_look m L i h0 h1 k v e hk, hx]; rfl
theorem one_swap (m : Int) (L : List (ByteArray × Int)) (i : Int) (h0 : 0 ≤ i) (h1 : i < 16) (k : ByteArray) (v e : Int) (hk : k.size ≤ 64) (hx : alook L k = some e) :
    applyA (fam1 m L) 0 i ⟨4, 0, k, v, e⟩ = (fam1 m (aset L k v), { found := true, value := e, count := 1 }) := by
  rw [fam1_do (fam1_free m L i h0 h1 _ rfl (by simp) (by simp) hk) rfl (by simp)]
  simp [doA, setV, setR, permK, hx, fam1_set]
theorem one_absent (m : Int) (L : List (ByteArray × Int)) (i : Int) (h0 : 0 ≤ i) (h1 : i < 16) (k : ByteArray) (v e x : Int) (hk : k.size ≤ 64) (hx : alook L k = some x) :
    applyA (fam1 m L) 0 i ⟨2, 0, k, v, e⟩ = (fam1 m L, { found := true, value := x }) := by
  rw [fam1_do (fam1_free m L i h0 h1 _ rfl (by simp) (by simp) hk) rfl (by simp)]
  simp [doA, setV, setR, permK, hx, fam1_set]
theorem one_replace (m : Int) (L : List (ByteArray × Int)) (i : Int) (h0 : 0 ≤ i) (h1 : i < 16) (k : ByteArray) (v e : Int) (hk : k.size ≤ 64) (hx : alook L k = none) :
    applyA (fam1 m L) 0 i ⟨3, 0, k, v, e⟩ = (fam1 m L, {}) := by
  rw [fam1_do (fam1_free m L i h0 h1 _ rfl (by simp) (by simp) hk) rfl (by simp)]
  simp [doA, setV, setR, permK, hx, fam1_set]
theorem one_removeif (m : Int) (L : List (ByteArray × Int)) (i : Int) (h0 : 0 ≤ i) (h1 : i < 16) (k : ByteArray) (v e x : Int) (hk : k.size ≤ 64) (hx : alook L k = some x) (he : x ≠ e) :
    applyA (fam1 m L) 0 i ⟨6, 0, k, v, e⟩ = (fam1 m L, { found := true, value := x }) := by
  rw [fam1_do (fam1_free m L i h0 h1 _ rfl (by simp) (by simp) hk) rfl (by simp)]
  simp [doA, removeV, removeR, dropK, hx, fam1_set, he]
theorem one_remove (m : Int) (L : List (ByteArray × Int)) (i : Int) (h0 : 0 ≤ i) (h1 : i < 16) (k : ByteArray) (v e x : Int) (hk : k.size ≤ 64) (hx : alook L k = some x) :
    applyA (fam1 m L) 0 i ⟨5, 0, k, v, e⟩ = (fam1 m (adel L k), { found := true, value := x, count := 1 }) := by
  rw [fam1_do (fam1_free m L i h0 h1 _ rfl (by simp) (by simp) hk) rfl (by simp)]
  simp [doA, removeV, removeR, dropK, hx, fam1_set]
theorem FamA.nodup {w : World} {bf bm bi : Nat} {A : AFam} {S : Nat → Prop} (h : FamA w bf bm bi A S) {n : Int} {d : AMap} (hd : alook A.maps n = some d) : (d.vals.map (·.1)).Nodup := by
  obtain ⟨F, h1, rfl, h3⟩ := h
  simp only [FamD.abs, alook_amap] at hd
  obtain ⟨f, hf, rfl⟩ := Option.map_eq_some_iff.1 hd
  exact (h1.vals _ (alook_mem hf)).nodup inj_str
/-- the state between two operations: the family, the results up to now -/
structure KeySt (w0 w : World) (m : Int) (L : List (ByteArray × Int)) (N : Nat) (l : List (Nat × ResD)) : Prop where
  fam : FamA w (w0.heap.size + 3) w0.heap.size (w0.heap.size + 2) (fam1 m L) (blk4 w0.heap.size)
  ok : OkA N (fam1 m L)
  res : ∀ p ∈ l, w0.heap.size + 4 ≤ p.1 ∧ ResAt w p.1 p.2
  below : Below w0.heap.size w0 w
  size : w0.heap.size + 4 ≤ w.heap.size
theorem KeySt.nodup {w0 w : World} {m : Int} {L : List (ByteArray × Int)} {N : Nat} {l : List (Nat × ResD)} (h : KeySt w0 w m L N l) : (L.map (·.1)).Nodup :=
  h.fam.nodup (n := 0) (d := ⟨L, false⟩) (by simp [fam1, alook])
theorem KeySt.only {w0 w w' : World} {m : Int} {L : List (ByteArray × Int)} {N : Nat} {l : List (Nat × ResD)} (h : KeySt w0 w m L N l) {b : Nat} (ho : Only (· = b) w w') (hb : w0.heap.size + 4 ≤ b) (hl : ∀ p ∈ l, p.1 ≠ b) : KeySt w0 w' m L N l :=
  ⟨h.fam.only ho (fun k hk e => by unfold blk4 at hk; omega), h.ok, fun p hp => ⟨(h.res p hp).1, (h.res p hp).2.only ho (hl p hp)⟩, h.below.trans (ho.below (by have := h.size; omega) (fun k hk => by omega)), Nat.le_trans h.size ho.size⟩
theorem KeySt.below' {w0 w w' : World} {m : Int} {L : List (ByteArray × Int)} {N : Nat} {l : List (Nat × ResD)} (h : KeySt w0 w m L N l) (ho : Below w.heap.size w w') : KeySt w0 w' m L N l :=
  ⟨h.fam.below ho, h.ok, fun p hp => ⟨(h.res p hp).1, (h.res p hp).2.below ho⟩, h.below.trans (ho.mono h.below.size), Nat.le_trans h.size ho.size⟩
theorem key_step0 (w0 w : World) (m : Int) (L : List (ByteArray × Int)) (N : Nat) (l : List (Nat × ResD)) (i : Int) (o : OpD) (L' : List (ByteArray × Int)) (r : ResD) (h : KeySt w0 w m L N l) (hN : N ≤ 1000) (hk : o.key.size ≤ 64) (k7 : o.kind ≤ 7) (heq : applyA (fam1 m L) 0 i o = (fam1 m L', r)) :
    Calls Try.prog 10 #[.pointer (some ⟨w0.heap.size + 3, 0, none⟩), .int .i64 0, .int .i64 i, o.val] w fun e w' =>
      e = .returned (.agg r.cells) ∧ KeySt w0 w' m L' (N + 1) l ∧ Only (blk4 w0.heap.size) w w' := by
  refine (apply_to w _ _ _ (fam1 m L) _ N (by omega) 0 i o (fam1 m L') r h.fam h.ok (by unfold maxLen; omega) heq (by omega) (by omega)).mono fun e w' ⟨he, hf, ho⟩ => ⟨he, ⟨hf, ?_, fun p hp => ⟨(h.res p hp).1, (h.res p hp).2.only ho (by have := (h.res p hp).1; unfold blk4; omega)⟩, h.below.trans (ho.below (by have := h.size; omega) (fun k hk => hk.1)), Nat.le_trans h.size ho.size⟩, ho⟩
  have := h.ok.apply 0 i o
  rw [heq] at this
  exact this
theorem key_step (w0 w : World) (m : Int) (L : List (ByteArray × Int)) (N : Nat) (l : List (Nat × ResD)) (i : Int) (o : OpD) (L' : List (ByteArray × Int)) (r : ResD) (h : KeySt w0 w m L N l) (hN : N ≤ 1000) (hk : o.key.size ≤ 64) (k7 : o.kind ≤ 7) (heq : applyA (fam1 m L) 0 i o = (fam1 m L', r)) :
    Calls Try.prog 10 #[.pointer (some ⟨w0.heap.size + 3, 0, none⟩), .int .i64 0, .int .i64 i, o.val] w fun e w' =>
      e = .returned (.agg r.cells) ∧ KeySt w0 (w'.alloc (.cells r.cells 35)) m L' (N + 1) ((w'.heap.size, r) :: l) ∧ w.heap.size ≤ w'.heap.size := by
  refine (key_step0 w0 w m L N l i o L' r h hN hk k7 heq).mono fun e w' ⟨he, hs, ho⟩ => ⟨he, ⟨hs.fam.alloc _, hs.ok, fun p hp => ?_, hs.below.alloc hs.below.size _, ?_⟩, ho.size⟩
  · rcases List.mem_cons.1 hp with rfl | hp
    · exact ⟨hs.size, ResAt.made w' r⟩
    · exact ⟨(hs.res p hp).1, (hs.res p hp).2.alloc _⟩
  · have := hs.size
    simp; omega
end Go.Proofs.Ytagfghihnkkfiaa
namespace Go.Proofs.Ytagfghihnkkfiaa
set_option linter.unusedVariables false
set_option linter.unusedSimpArgs false
open Go.RowKit Go.MapKept
theorem below_drewN {B : Nat} {w w' : World} (h : Below B w w') (n : Nat) : Below B w (w'.drewN n) := ⟨h.os, h.tape, h.output, h.size, h.block⟩
def famF (m : Int) (L : List (ByteArray × Int)) : AFam := ⟨m, [(0, ⟨L, false⟩), (10, ⟨L, true⟩)], []⟩
def famI (m : Int) (L : List (ByteArray × Int)) (p : Int) : AFam := ⟨m, [(0, ⟨L, false⟩), (10, ⟨L, true⟩)], [(11, ⟨0, 10, p⟩)]⟩
def opE (kind handle : Int) : OpD := ⟨kind, handle, ⟨#[]⟩, 0, 0⟩
theorem num_9 : numberOf 0 9 = 10 := by decide
theorem num_10 : numberOf 0 10 = 11 := by decide
theorem num_11 : numberOf 0 11 = 12 := by decide
theorem num_12 : numberOf 0 12 = 13 := by decide
theorem num_13 : numberOf 0 13 = 14 := by decide
theorem ord_freeze (m : Int) (L : List (ByteArray × Int)) : applyA (fam1 m L) 0 9 (opE 9 0) = (famF m L, { found := true }) := by
  have hz : refusalA (fam1 m L) 0 9 (opE 9 0) = 0 := by
    unfold refusalA
    rw [num_9]
    simp [opE, unfitA, fam1, alook, unfitK, takenA]
  rw [applyA_do (d := ⟨L, false⟩) hz (by simp [opE]) (by simp [opE, fam1, alook])]
  simp [doA, opE, num_9, fam1, aset, famF]
theorem ord_iter (m : Int) (L : List (ByteArray × Int)) : applyA (famF m L) 0 10 (opE 12 10) = (famI m L 0, { found := true }) := by
  have hz : refusalA (famF m L) 0 10 (opE 12 10) = 0 := by
    unfold refusalA
    rw [num_10]
    simp [opE, unfitA, famF, alook, unfitK, takenA]
  rw [applyA_do (d := ⟨L, true⟩) hz (by simp [opE]) (by simp [opE, famF, alook])]
  simp [doA, opE, num_10, famF, aset, famI]
theorem ord_lost (m : Int) (L : List (ByteArray × Int)) (p i : Int) (h0 : 0 ≤ i) (h1 : i < 16) : applyA (famI m L p) 1 i (opE 13 11) = (famI m L p, { err := 5 }) := by
  have hn : numberOf 1 i = 17 + i := by
    unfold numberOf
    rw [if_neg (by omega)]
    omega
  have hz : refusalA (famI m L p) 1 i (opE 13 11) = 5 := by
    unfold refusalA
    rw [hn, if_neg (by simp [opE]; omega)]
    simp [opE, lostA, famI, alook]
  rw [applyA_err (by rw [hz]; decide), hz]
theorem ord_ok (m : Int) (L : List (ByteArray × Int)) (p i n : Int) (hn : numberOf 0 i = n) (h0 : 11 < n) : refusalA (famI m L p) 0 i (opE 13 11) = 0 := by
  have h1 : ¬ (0 : Int) = n := by omega
  have h2 : ¬ (10 : Int) = n := by omega
  have h3 : ¬ (11 : Int) = n := by omega
  unfold refusalA
  rw [hn, if_neg (by simp [opE]; omega)]
  simp [opE, lostA, famI, alook, takenA, h1, h2, h3]
theorem ord_next (m : Int) (L : List (ByteArray × Int)) (p : Nat) (x : ByteArray × Int) (hx : (sortedOf m L)[p]? = some x) : applyA (famI m L p) 0 11 (opE 13 11) = (famI m L (p + 1), { found := true, key := x.1, value := x.2 }) := by
  have hlt : p < L.length := by
    have := (List.getElem?_eq_some_iff.1 hx).1
    rw [sortedOf_length] at this
    exact this
  rw [applyA_next (ord_ok m L p 11 12 num_11 (by omega)) (by simp [opE])]
  have hc : ¬ (L.length : Int) ≤ p := by omega
  simp [nextA, opE, famI, alook, aset, hx, Int.toNat_natCast]
  omega
theorem ord_end (m : Int) (L : List (ByteArray × Int)) : applyA (famI m L L.length) 0 12 (opE 13 11) = (famI m L L.length, {}) := by
  rw [applyA_next (ord_ok m L L.length 12 13 num_12 (by omega)) (by simp [opE])]
  simp [nextA, opE, famI, alook]
theorem ord_size (m : Int) (L : List (ByteArray × Int)) (p : Int) : applyA (famI m L p) 0 13 (opE 11 10) = (famI m L p, { count := L.length }) := by
  have hz : refusalA (famI m L p) 0 13 (opE 11 10) = 0 := by
    unfold refusalA
    rw [num_13]
    simp [opE, unfitA, famI, alook, unfitK, takenA]
  rw [applyA_do (d := ⟨L, true⟩) hz (by simp [opE]) (by simp [opE, famI, alook])]
  simp [doA, opE]
theorem okF {m : Int} {L : List (ByteArray × Int)} (h : OkA 10 (fam1 m L)) : OkA 10 (famF m L) := by
  have hk := h.keys (0, ⟨L, false⟩) (by simp [fam1])
  have hl := h.lens (0, ⟨L, false⟩) (by simp [fam1])
  exact ⟨h.m0, h.m1, by simp [famF]; exact fun a b hm => hk (a, b) hm, by simp [famF]; exact hl, by simp [famF], by simp [famF], by simp [famF]⟩
theorem okI {m : Int} {L : List (ByteArray × Int)} (h : OkA 10 (fam1 m L)) (p : Int) (h0 : 0 ≤ p) (h1 : p ≤ 10) : OkA 10 (famI m L p) := by
  have hk := h.keys (0, ⟨L, false⟩) (by simp [fam1])
  have hl := h.lens (0, ⟨L, false⟩) (by simp [fam1])
  exact ⟨h.m0, h.m1, by simp [famI]; exact fun a b hm => hk (a, b) hm, by simp [famI]; exact hl, by simp [famI]; exact ⟨h0, h1⟩, by simp [famI, alook], by simp [famI]⟩
theorem ltP_chain {m : Int} {L : List (ByteArray × Int)} (hn : (L.map (·.1)).Nodup) {p : Nat} {x y : ByteArray × Int} (hx : (sortedOf m L)[p]? = some x) (hy : (sortedOf m L)[p + 1]? = some y) : ltP m x y = true := by
  obtain ⟨h1, e1⟩ := List.getElem?_eq_some_iff.1 hx
  obtain ⟨h2, e2⟩ := List.getElem?_eq_some_iff.1 hy
  have hs := List.pairwise_iff_getElem.1 (sortedOf_sorted m L) p (p + 1) h1 h2 (by omega)
  rw [e1, e2] at hs
  cases hl : ltP m x y with
  | true => rfl
  | false =>
    have hk := ltP_total hl hs
    have hnn : ((sortedOf m L).map (·.1)).Nodup := ((sortedOf_perm m L).map (·.1)).nodup_iff.2 hn
    have := (List.nodup_iff_pairwise_ne.1 hnn)
    have hq := List.pairwise_iff_getElem.1 hnn p (p + 1) (by simpa using h1) (by simpa using h2) (by omega)
    simp only [List.getElem_map, e1, e2] at hq
    exact absurd hk hq
end Go.Proofs.Ytagfghihnkkfiaa
namespace Go.Proofs.Ytagfghihnkkfiaa
set_option linter.unusedVariables false
set_option linter.unusedSimpArgs false
open Go.RowKit Go.MapKept
def PairsAt (w : World) (g : Nat) (X : List (ByteArray × Int)) : Prop :=
  ∀ P x, X[P]? = some x → w.cell? ⟨g, P * 2, none⟩ = some (.string x.1) ∧ w.cell? ⟨g, P * 2 + 1, none⟩ = some (.int .u64 x.2)
def IntsIn (w : World) (g : Nat) (X : List Int) : Prop := ∀ P x, X[P]? = some x → w.cell? ⟨g, P, none⟩ = some (.int .i64 x)
theorem PairsAt.of_block {w w' : World} {g : Nat} {X : List (ByteArray × Int)} (h : PairsAt w g X) (hb : w'.heap[g]? = w.heap[g]?) : PairsAt w' g X :=
  fun P x hx => ⟨(World.cell?_of_block hb).trans (h P x hx).1, (World.cell?_of_block hb).trans (h P x hx).2⟩
theorem IntsIn.of_block {w w' : World} {g : Nat} {X : List Int} (h : IntsIn w g X) (hb : w'.heap[g]? = w.heap[g]?) : IntsIn w' g X :=
  fun P x hx => (World.cell?_of_block hb).trans (h P x hx)
def EqLp (w : World) (n : Nat) (i : Value) (wr : World) : Prop := ∃ j : Nat, j ≤ n ∧ i = .int .i64 j ∧ Below w.heap.size w wr ∧ wr.heap = w.heap
set_option maxHeartbeats 1000000 in
theorem pairs_eq (w : World) (g1 g2 c1 c2 : Nat) (X : List (ByteArray × Int)) (h1 : PairsAt w g1 X) (h2 : PairsAt w g2 X) (hn : X.length ≤ 1099511627776) :
    Calls Try.prog 17 #[.slice (some ⟨g1, 0, none⟩) X.length c1, .slice (some ⟨g2, 0, none⟩) X.length c2] w fun e w' => e = .returned (.bool true) ∧ Below w.heap.size w w' := by
  have H1 := Lib.hid h1
  have H2 := Lib.hid h2
  clear h1 h2
  go_enter Try.func17, Try.ntmps17
  go_wp2_with fail
  go_loopw [5] (fun i wr => EqLp w X.length i wr) (fun i _ => X.length - (intOf i).toNat)
  case atStart => exact ⟨0, by omega, rfl, Below.refl _ _, rfl⟩
  case round =>
    obtain ⟨j, hj, rfl, hb, hh⟩ := hrel
    have HB := Lib.hid hb
    have HH := Lib.hid hh
    clear hb hh
    by_cases hlt : j < X.length
    · obtain ⟨x, hx⟩ : ∃ x, X[j]? = some x := ⟨_, List.getElem?_eq_getElem hlt⟩
      obtain ⟨p1, p2⟩ := (H1.out.of_block (w' := wr) (by rw [HH.out])) j x hx
      obtain ⟨q1, q2⟩ := (H2.out.of_block (w' := wr) (by rw [HH.out])) j x hx
      have hj0 : (0 : Int) ≤ j := by omega
      have hj1 : (j : Int) < X.length := by omega
      clear hx
      go_wp2_with fail
      go_quiet (fail)
      go_wp2_with fail
      go_roundw
      case rel => exact ⟨j + 1, by omega, by go_num, below_drewN HB.out _, HH.out⟩
      case measure => simp [intOf]; omega
    · go_wp2_with fail
      go_ret
      exact ⟨rfl, HB.out⟩
set_option maxHeartbeats 1000000 in
theorem ints_eq (w : World) (g1 g2 c1 c2 : Nat) (X : List Int) (h1 : IntsIn w g1 X) (h2 : IntsIn w g2 X) (hn : X.length ≤ 1099511627776) :
    Calls Try.prog 18 #[.slice (some ⟨g1, 0, none⟩) X.length c1, .slice (some ⟨g2, 0, none⟩) X.length c2] w fun e w' => e = .returned (.bool true) ∧ Below w.heap.size w w' := by
  have H1 := Lib.hid h1
  have H2 := Lib.hid h2
  clear h1 h2
  go_enter Try.func18, Try.ntmps18
  go_wp2_with fail
  go_loopw [5] (fun i wr => EqLp w X.length i wr) (fun i _ => X.length - (intOf i).toNat)
  case atStart => exact ⟨0, by omega, rfl, Below.refl _ _, rfl⟩
  case round =>
    obtain ⟨j, hj, rfl, hb, hh⟩ := hrel
    have HB := Lib.hid hb
    have HH := Lib.hid hh
    clear hb hh
    by_cases hlt : j < X.length
    · obtain ⟨x, hx⟩ : ∃ x, X[j]? = some x := ⟨_, List.getElem?_eq_getElem hlt⟩
      have p1 := (H1.out.of_block (w' := wr) (by rw [HH.out])) j x hx
      have q1 := (H2.out.of_block (w' := wr) (by rw [HH.out])) j x hx
      have hj0 : (0 : Int) ≤ j := by omega
      have hj1 : (j : Int) < X.length := by omega
      clear hx
      go_wp2_with fail
      go_quiet (fail)
      go_wp2_with fail
      go_roundw
      case rel => exact ⟨j + 1, by omega, by go_num, below_drewN HB.out _, HH.out⟩
      case measure => simp [intOf]; omega
    · go_wp2_with fail
      go_ret
      exact ⟨rfl, HB.out⟩
end Go.Proofs.Ytagfghihnkkfiaa
