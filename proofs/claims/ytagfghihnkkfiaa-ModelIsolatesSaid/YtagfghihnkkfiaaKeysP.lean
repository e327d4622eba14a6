/- What the operations of ModelKeys do to a family with one map. No walk in sight. -/
import Derived.Test.YtagfghihnkkfiaaModQ
import Derived.Test.YtagfghihnkkfiaaTape
namespace Go.Proofs.Ytagfghihnkkfiaa
set_option linter.unusedVariables false
set_option linter.unusedSimpArgs false
open Go.RowKit Go.MapKept
def fam1 (m : Int) (L : List (ByteArray × Int)) : AFam := ⟨m, [(0, ⟨L, false⟩)], []⟩
theorem fam1_free (m : Int) (L : List (ByteArray × Int)) (i : Int) (h0 : 0 ≤ i) (h1 : i < 16) (o : OpD) (hh : o.handle = 0) (k0 : 1 ≤ o.kind) (k1 : o.kind ≤ 7) (hk : o.key.size ≤ 64) : refusalA (fam1 m L) 0 i o = 0 := by
  have hn : numberOf 0 i = 1 + i := by
    unfold numberOf
    rw [if_neg (by omega)]
    omega
  have ht : takenA (fam1 m L) (1 + i) = false := by
    have : ¬ (0 : Int) = 1 + i := by omega
    simp [takenA, fam1, alook, this]
  have hu : unfitA (fam1 m L) o = 0 := by
    unfold unfitA
    have e : alook (fam1 m L).maps o.handle = some ⟨L, false⟩ := by rw [hh]; simp [fam1, alook]
    rw [e]
    show unfitK o.kind o.key false = 0
    unfold unfitK
    rw [if_neg (by omega)]
    split
    · rfl
    · split
      · rename_i hx
        simp only [Bool.or_eq_true, beq_iff_eq] at hx
        omega
      · rfl
  unfold refusalA
  rw [hn, if_neg (by omega), if_neg (by simp; omega), hu, ht]
  rfl
theorem fam1_do {m : Int} {L : List (ByteArray × Int)} {i : Int} {o : OpD} (hz : refusalA (fam1 m L) 0 i o = 0) (hh : o.handle = 0) (k1 : o.kind ≤ 7) : applyA (fam1 m L) 0 i o = doA (fam1 m L) 0 i o ⟨L, false⟩ :=
  applyA_do hz (by omega) (by rw [hh]; simp [fam1, alook])
theorem fam1_set (m : Int) (L L' : List (ByteArray × Int)) : ({ fam1 m L with maps := aset (fam1 m L).maps 0 ⟨L', false⟩ } : AFam) = fam1 m L' := by
  simp [fam1, aset]
theorem one_insert (m : Int) (L : List (ByteArray × Int)) (i : Int) (h0 : 0 ≤ i) (h1 : i < 16) (k : ByteArray) (v e : Int) (hk : k.size ≤ 64) :
    applyA (fam1 m L) 0 i ⟨1, 0, k, v, e⟩ = (fam1 m (aset L k v), { found := (alook L k).isSome, value := (alook L k).getD 0, count := 1 }) := by
  rw [fam1_do (fam1_free m L i h0 h1 _ rfl (by simp) (by simp) hk) rfl (by simp)]
  simp only [doA, setV, setR, permK]
  rw [if_pos (by decide)]
  simp [fam1_set]
theorem one_look (m : Int) (L : List (ByteArray × Int)) (i : Int) (h0 : 0 ≤ i) (h1 : i < 16) (k : ByteArray) (v e : Int) (hk : k.size ≤ 64) :
    applyA (fam1 m L) 0 i ⟨7, 0, k, v, e⟩ = (fam1 m L, { found := (alook L k).isSome, value := (alook L k).getD 0 }) := by
  rw [fam1_do (fam1_free m L i h0 h1 _ rfl (by simp) (by simp) hk) rfl (by simp)]
  simp [doA]
theorem one_look_some (m : Int) (L : List (ByteArray × Int)) (i : Int) (h0 : 0 ≤ i) (h1 : i < 16) (k : ByteArray) (v e x : Int) (hk : k.size ≤ 64) (hx : alook L k = some x) :
    applyA (fam1 m L) 0 i ⟨7, 0, k, v, e⟩ = (fam1 m L, { found := true, value := x }) := by
  rw [one_look m L i h0 h1 k v e hk, hx]; rfl
theorem one_swap (m : Int) (L : List (ByteArray × Int)) (i : Int) (h0 : 0 ≤ i) (h1 : i < 16) (k : ByteArray) (v e : Int) (hk : k.size ≤ 64) (hx : alook L k = some e) :
    applyA (fam1 m L) 0 i ⟨4, 0, k, v, e⟩ = (fam1 m (aset L k v), { found := true, value := e, count := 1 }) := by
  rw [fam1_do (fam1_free m L i h0 h1 _ rfl (by simp) (by simp) hk) rfl (by simp)]
  simp [doA, setV, setR, permK, hx, fam1_set]
theorem one_absent (m : Int) (L : List (ByteArray × Int)) (i : Int) (h0 : 0 ≤ i) (h1 : i < 16) (k : ByteArray) (v e x : Int) (hk : k.size ≤ 64) (hx : alook L k = some x) :
    applyA (fam1 m L) 0 i ⟨2, 0, k, v, e⟩ = (fam1 m L, { found := true, value := x }) := by
  rw [fam1_do (fam1_free m L i h0 h1 _ rfl (by simp) (by simp) hk) rfl (by simp)]
  simp [doA, setV, setR, permK, hx, fam1_set]
theorem one_replace (m : Int) (L : List (ByteArray × Int)) (i : Int) (h0 : 0 ≤ i) (h1 : i < 16) (k : ByteArray) (v e : Int) (hk : k.size ≤ 64) (hx : alook L k = none) :
    applyA (fam1 m L) 0 i ⟨3, 0, k, v, e⟩ = (fam1 m L, {}) := by
  rw [fam1_do (fam1_free m L i h0 h1 _ rfl (by simp) (by simp) hk) rfl (by simp)]
  simp [doA, setV, setR, permK, hx, fam1_set]
theorem one_removeif (m : Int) (L : List (ByteArray × Int)) (i : Int) (h0 : 0 ≤ i) (h1 : i < 16) (k : ByteArray) (v e x : Int) (hk : k.size ≤ 64) (hx : alook L k = some x) (he : x ≠ e) :
    applyA (fam1 m L) 0 i ⟨6, 0, k, v, e⟩ = (fam1 m L, { found := true, value := x }) := by
  rw [fam1_do (fam1_free m L i h0 h1 _ rfl (by simp) (by simp) hk) rfl (by simp)]
  simp [doA, removeV, removeR, dropK, hx, fam1_set, he]
theorem one_remove (m : Int) (L : List (ByteArray × Int)) (i : Int) (h0 : 0 ≤ i) (h1 : i < 16) (k : ByteArray) (v e x : Int) (hk : k.size ≤ 64) (hx : alook L k = some x) :
    applyA (fam1 m L) 0 i ⟨5, 0, k, v, e⟩ = (fam1 m (adel L k), { found := true, value := x, count := 1 }) := by
  rw [fam1_do (fam1_free m L i h0 h1 _ rfl (by simp) (by simp) hk) rfl (by simp)]
  simp [doA, removeV, removeR, dropK, hx, fam1_set]
theorem FamA.nodup {w : World} {bf bm bi : Nat} {A : AFam} {S : Nat → Prop} (h : FamA w bf bm bi A S) {n : Int} {d : AMap} (hd : alook A.maps n = some d) : (d.vals.map (·.1)).Nodup := by
  obtain ⟨F, h1, rfl, h3⟩ := h
  simp only [FamD.abs, alook_amap] at hd
  obtain ⟨f, hf, rfl⟩ := Option.map_eq_some_iff.1 hd
  exact (h1.vals _ (alook_mem hf)).nodup inj_str
/-- the state between two operations: the family, the results up to now -/
structure KeySt (w0 w : World) (m : Int) (L : List (ByteArray × Int)) (N : Nat) (l : List (Nat × ResD)) : Prop where
  fam : FamA w (w0.heap.size + 3) w0.heap.size (w0.heap.size + 2) (fam1 m L) (blk4 w0.heap.size)
  ok : OkA N (fam1 m L)
  res : ∀ p ∈ l, w0.heap.size + 4 ≤ p.1 ∧ ResAt w p.1 p.2
  below : Below w0.heap.size w0 w
  size : w0.heap.size + 4 ≤ w.heap.size
theorem KeySt.nodup {w0 w : World} {m : Int} {L : List (ByteArray × Int)} {N : Nat} {l : List (Nat × ResD)} (h : KeySt w0 w m L N l) : (L.map (·.1)).Nodup :=
  h.fam.nodup (n := 0) (d := ⟨L, false⟩) (by simp [fam1, alook])
theorem KeySt.only {w0 w w' : World} {m : Int} {L : List (ByteArray × Int)} {N : Nat} {l : List (Nat × ResD)} (h : KeySt w0 w m L N l) {b : Nat} (ho : Only (· = b) w w') (hb : w0.heap.size + 4 ≤ b) (hl : ∀ p ∈ l, p.1 ≠ b) : KeySt w0 w' m L N l :=
  ⟨h.fam.only ho (fun k hk e => by unfold blk4 at hk; omega), h.ok, fun p hp => ⟨(h.res p hp).1, (h.res p hp).2.only ho (hl p hp)⟩, h.below.trans (ho.below (by have := h.size; omega) (fun k hk => by omega)), Nat.le_trans h.size ho.size⟩
theorem KeySt.below' {w0 w w' : World} {m : Int} {L : List (ByteArray × Int)} {N : Nat} {l : List (Nat × ResD)} (h : KeySt w0 w m L N l) (ho : Below w.heap.size w w') : KeySt w0 w' m L N l :=
  ⟨h.fam.below ho, h.ok, fun p hp => ⟨(h.res p hp).1, (h.res p hp).2.below ho⟩, h.below.trans (ho.mono h.below.size), Nat.le_trans h.size ho.size⟩
theorem key_step0 (w0 w : World) (m : Int) (L : List (ByteArray × Int)) (N : Nat) (l : List (Nat × ResD)) (i : Int) (o : OpD) (L' : List (ByteArray × Int)) (r : ResD) (h : KeySt w0 w m L N l) (hN : N ≤ 1000) (hk : o.key.size ≤ 64) (k7 : o.kind ≤ 7) (heq : applyA (fam1 m L) 0 i o = (fam1 m L', r)) :
    Calls Try.prog 10 #[.pointer (some ⟨w0.heap.size + 3, 0, none⟩), .int .i64 0, .int .i64 i, o.val] w fun e w' =>
      e = .returned (.agg r.cells) ∧ KeySt w0 w' m L' (N + 1) l ∧ Only (blk4 w0.heap.size) w w' := by
  refine (apply_to w _ _ _ (fam1 m L) _ N (by omega) 0 i o (fam1 m L') r h.fam h.ok (by unfold maxLen; omega) heq (by omega) (by omega)).mono fun e w' ⟨he, hf, ho⟩ => ⟨he, ⟨hf, ?_, fun p hp => ⟨(h.res p hp).1, (h.res p hp).2.only ho (by have := (h.res p hp).1; unfold blk4; omega)⟩, h.below.trans (ho.below (by have := h.size; omega) (fun k hk => hk.1)), Nat.le_trans h.size ho.size⟩, ho⟩
  have := h.ok.apply 0 i o
  rw [heq] at this
  exact this
theorem key_step (w0 w : World) (m : Int) (L : List (ByteArray × Int)) (N : Nat) (l : List (Nat × ResD)) (i : Int) (o : OpD) (L' : List (ByteArray × Int)) (r : ResD) (h : KeySt w0 w m L N l) (hN : N ≤ 1000) (hk : o.key.size ≤ 64) (k7 : o.kind ≤ 7) (heq : applyA (fam1 m L) 0 i o = (fam1 m L', r)) :
    Calls Try.prog 10 #[.pointer (some ⟨w0.heap.size + 3, 0, none⟩), .int .i64 0, .int .i64 i, o.val] w fun e w' =>
      e = .returned (.agg r.cells) ∧ KeySt w0 (w'.alloc (.cells r.cells 35)) m L' (N + 1) ((w'.heap.size, r) :: l) ∧ w.heap.size ≤ w'.heap.size := by
  refine (key_step0 w0 w m L N l i o L' r h hN hk k7 heq).mono fun e w' ⟨he, hs, ho⟩ => ⟨he, ⟨hs.fam.alloc _, hs.ok, fun p hp => ?_, hs.below.alloc hs.below.size _, ?_⟩, ho.size⟩
  · rcases List.mem_cons.1 hp with rfl | hp
    · exact ⟨hs.size, ResAt.made w' r⟩
    · exact ⟨(hs.res p hp).1, (hs.res p hp).2.alloc _⟩
  · have := hs.size
    simp; omega
end Go.Proofs.Ytagfghihnkkfiaa
