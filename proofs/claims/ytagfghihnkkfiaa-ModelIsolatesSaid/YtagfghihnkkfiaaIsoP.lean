/- What the operations of ModelIsolates do: a map and its copy. -/
import Derived.Test.YtagfghihnkkfiaaHand
import Derived.Test.YtagfghihnkkfiaaOrd
namespace Go.Proofs.Ytagfghihnkkfiaa
set_option linter.unusedVariables false
set_option linter.unusedSimpArgs false
open Go.RowKit Go.MapKept
def famS (m : Int) (L M : List (ByteArray × Int)) (b : Bool) : AFam := ⟨m, [(0, ⟨L, false⟩), (6, ⟨M, b⟩)], []⟩
def kB (b : Bool) : Int := if b then 9 else 8
def kOf (R : Nat) : Int := if R = 0 then 1 else if R = 1 then 5 else 10
theorem kOf_cases (R : Nat) : kOf R = 1 ∨ kOf R = 5 ∨ kOf R = 10 := by
  unfold kOf
  split
  · exact Or.inl rfl
  · split
    · exact Or.inr (Or.inl rfl)
    · exact Or.inr (Or.inr rfl)
theorem num_5 : numberOf 0 5 = 6 := by decide
theorem iso_copy (m : Int) (L : List (ByteArray × Int)) (b : Bool) : applyA (fam1 m L) 0 5 (opE (kB b) 0) = (famS m L L b, { found := true }) := by
  have hz : refusalA (fam1 m L) 0 5 (opE (kB b) 0) = 0 := by
    unfold refusalA
    rw [num_5]
    cases b <;> simp [opE, unfitA, fam1, alook, unfitK, takenA, kB]
  rw [applyA_do (d := ⟨L, false⟩) hz (by cases b <;> simp [opE, kB]) (by simp [opE, fam1, alook])]
  cases b <;> simp [doA, opE, num_5, fam1, aset, famS, kB]
theorem iso_mine (m : Int) (L M : List (ByteArray × Int)) (b : Bool) (i : Int) (h0 : 6 ≤ i) (h1 : i < 12) (kind : Int) (hk : kind = 1 ∨ kind = 5 ∨ kind = 10) (ky : ByteArray) (hs : ky.size ≤ 64) (v e : Int) :
    ∃ L' r, applyA (famS m L M b) 0 i ⟨kind, 0, ky, v, e⟩ = (famS m L' M b, r) := by
  have hn : numberOf 0 i = 1 + i := by
    unfold numberOf
    rw [if_neg (by omega)]
    omega
  have n1 : ¬ (0 : Int) = 1 + i := by omega
  have n2 : ¬ (6 : Int) = 1 + i := by omega
  have hz : refusalA (famS m L M b) 0 i ⟨kind, 0, ky, v, e⟩ = 0 := by
    have hu : unfitA (famS m L M b) ⟨kind, 0, ky, v, e⟩ = 0 := by
      have e1 : unfitA (famS m L M b) ⟨kind, 0, ky, v, e⟩ = unfitK kind ky false := by simp [unfitA, famS, alook]
      rw [e1]
      unfold unfitK
      rw [if_neg (by omega)]
      rcases hk with rfl | rfl | rfl <;> simp
    have ht : takenA (famS m L M b) (1 + i) = false := by simp [takenA, famS, alook, n1, n2]
    unfold refusalA
    rw [hn, if_neg (by simp; omega), if_neg (by simp; omega), hu, ht]
    rfl
  rw [applyA_do (d := ⟨L, false⟩) hz (by simp; omega) (by simp [famS, alook])]
  rcases hk with rfl | rfl | rfl
  · exact ⟨_, _, by simp only [doA]; rw [if_pos (by decide)]; simp [famS, aset]; exact ⟨rfl, rfl⟩⟩
  · exact ⟨_, _, by simp only [doA]; rw [if_neg (by decide), if_pos (by decide)]; simp [famS, aset]; exact ⟨rfl, rfl⟩⟩
  · exact ⟨[], _, by simp only [doA]; rw [if_neg (by decide), if_neg (by decide), if_neg (by decide), if_neg (by decide), if_pos (by decide)]; simp [famS, aset]; rfl⟩
theorem iso_other (m : Int) (L M : List (ByteArray × Int)) (b : Bool) (i : Int) (h0 : 0 ≤ i) (h1 : i < 5) (kind : Int) (hk : kind = 1 ∨ kind = 5 ∨ kind = 10) (ky : ByteArray) (hs : ky.size ≤ 64) (v e : Int) :
    ∃ M' r, applyA (famS m L M b) 1 i ⟨kind, 6, ky, v, e⟩ = (famS m L M' b, r) ∧ (b = true → M' = M) := by
  have hn : numberOf 1 i = 17 + i := by
    unfold numberOf
    rw [if_neg (by omega)]
    omega
  have n1 : ¬ (0 : Int) = 17 + i := by omega
  have n2 : ¬ (6 : Int) = 17 + i := by omega
  have e1 : unfitA (famS m L M b) ⟨kind, 6, ky, v, e⟩ = unfitK kind ky b := by simp [unfitA, famS, alook]
  have ht : takenA (famS m L M b) (17 + i) = false := by simp [takenA, famS, alook, n1, n2]
  cases b with
  | true =>
    have hu : unfitK kind ky true = 6 := by
      unfold unfitK
      rw [if_neg (by omega)]
      rcases hk with rfl | rfl | rfl <;> simp
    have hz : refusalA (famS m L M true) 1 i ⟨kind, 6, ky, v, e⟩ = 6 := by
      unfold refusalA
      rw [hn, if_neg (by simp; omega), if_neg (by simp; omega), e1, hu]
      rfl
    exact ⟨M, _, applyA_err (by rw [hz]; decide), fun _ => rfl⟩
  | false =>
    have hz : refusalA (famS m L M false) 1 i ⟨kind, 6, ky, v, e⟩ = 0 := by
      have hu : unfitK kind ky false = 0 := by
        unfold unfitK
        rw [if_neg (by omega)]
        rcases hk with rfl | rfl | rfl <;> simp
      unfold refusalA
      rw [hn, if_neg (by simp; omega), if_neg (by simp; omega), e1, hu, ht]
      rfl
    rw [applyA_do (d := ⟨M, false⟩) hz (by simp; omega) (by simp [famS, alook])]
    rcases hk with rfl | rfl | rfl
    · exact ⟨_, _, by simp only [doA]; rw [if_pos (by decide)]; simp [famS, aset]; exact ⟨rfl, rfl⟩, by simp⟩
    · exact ⟨_, _, by simp only [doA]; rw [if_neg (by decide), if_pos (by decide)]; simp [famS, aset]; exact ⟨rfl, rfl⟩, by simp⟩
    · exact ⟨[], _, by simp only [doA]; rw [if_neg (by decide), if_neg (by decide), if_neg (by decide), if_neg (by decide), if_pos (by decide)]; simp [famS, aset]; rfl, by simp⟩
structure IsoSt (w0 w : World) (m : Int) (L M : List (ByteArray × Int)) (b : Bool) (S : Nat → Prop) (N bt : Nat) (rows : List (Nat × List (ByteArray × Int))) : Prop where
  fam : FamA w (w0.heap.size + 3) w0.heap.size (w0.heap.size + 2) (famS m L M b) S
  ok : OkA N (famS m L M b)
  tape : TapeIs w w0.heap.size bt
  below : Below w0.heap.size w0 w
  low : ∀ k, S k → w0.heap.size ≤ k ∧ k ≠ bt
  high : ∀ k, S k → k < w.heap.size
  rows : ∀ p ∈ rows, PairsAt w p.1 p.2 ∧ ¬ S p.1 ∧ p.1 ≠ bt ∧ p.1 < w.heap.size
variable {w0 w w' : World} {m : Int} {L M : List (ByteArray × Int)} {b : Bool} {S : Nat → Prop} {N bt : Nat} {rows : List (Nat × List (ByteArray × Int))}
theorem IsoSt.bt0 (h : IsoSt w0 w m L M b S N bt rows) : w0.heap.size ≤ bt := by
  obtain ⟨_, _, _, _, _, hB, _⟩ := h.tape
  exact hB
theorem IsoSt.tape' (h : IsoSt w0 w m L M b S N bt rows) (ho : Only (· = bt) w w') (ht : TapeIs w' w0.heap.size bt) : IsoSt w0 w' m L M b S N bt rows :=
  ⟨h.fam.only ho (fun k hk => (h.low k hk).2), h.ok, ht, h.below.trans (ho.below h.below.size (fun k hk => by have := h.bt0; omega)), h.low, fun k hk => Nat.lt_of_lt_of_le (h.high k hk) ho.size,
   fun p hp => ⟨(h.rows p hp).1.of_block (ho.block _ (h.rows p hp).2.2.2 (h.rows p hp).2.2.1), (h.rows p hp).2.1, (h.rows p hp).2.2.1, Nat.lt_of_lt_of_le (h.rows p hp).2.2.2 ho.size⟩⟩
theorem IsoSt.below' (h : IsoSt w0 w m L M b S N bt rows) (hb : Below w.heap.size w w') : IsoSt w0 w' m L M b S N bt rows :=
  ⟨h.fam.below hb, h.ok, h.tape.keep (hb.block bt h.tape.lt) (fun k hk => hb.block k (Nat.lt_of_lt_of_le hk h.below.size)), h.below.trans (hb.mono h.below.size), h.low, fun k hk => Nat.lt_of_lt_of_le (h.high k hk) hb.size,
   fun p hp => ⟨(h.rows p hp).1.of_block (hb.block _ (h.rows p hp).2.2.2), (h.rows p hp).2.1, (h.rows p hp).2.2.1, Nat.lt_of_lt_of_le (h.rows p hp).2.2.2 hb.size⟩⟩
theorem IsoSt.alloc (h : IsoSt w0 w m L M b S N bt rows) (o : Obj) : IsoSt w0 (w.alloc o) m L M b S N bt rows := h.below' ((Below.refl _ _).alloc (Nat.le_refl _) o)
theorem IsoSt.drew (h : IsoSt w0 w m L M b S N bt rows) : IsoSt w0 w.drew m L M b S N bt rows := h.below' (Below.refl _ _).drew
theorem IsoSt.row (h : IsoSt w0 w m L M b S N bt rows) {v : Value} {X : List (ByteArray × Int)} (hp : ListPost w X m v w') : ∃ g, v = .slice (some ⟨g, 0, none⟩) X.length X.length ∧ IsoSt w0 w' m L M b S N bt ((g, sortedOf m X) :: rows) := by
  obtain ⟨g, hv, ho, hb⟩ := hp
  have hg : w.heap.size ≤ g ∧ g < w'.heap.size := by
    rcases ho.2 with ⟨h1, _⟩ | ⟨g', cap, cur, h1, hb, h2, _⟩
    · simp at h1
    · simp at h1
      have := (Array.getElem?_eq_some_iff.1 h2).1
      omega
  have h' := h.below' hb
  refine ⟨g, hv, h'.fam, h'.ok, h'.tape, h'.below, h'.low, h'.high, fun p hp => ?_⟩
  rcases List.mem_cons.1 hp with rfl | hp
  · exact ⟨fun P x hx => ⟨(pair_at ho hx).1, (pair_at ho hx).2.1⟩, fun hh => by have := h.high g hh; omega, fun e => by have := h.tape.lt; simp only at e; omega, hg.2⟩
  · exact h'.rows p hp
theorem iso_stepA (h : IsoSt w0 w m L M b S N bt rows) (hN : N ≤ 1000) (i : Int) (h0 : 6 ≤ i) (h1 : i < 12) (kind : Int) (hk : kind = 1 ∨ kind = 5 ∨ kind = 10) (ky : ByteArray) (hs : ky.size ≤ 64) (v e : Int) :
    Calls Try.prog 10 #[.pointer (some ⟨w0.heap.size + 3, 0, none⟩), .int .i64 0, .int .i64 i, (OpD.mk kind 0 ky v e).val] w fun en w' =>
      ∃ L' r, en = .returned (.agg (ResD.cells r)) ∧ IsoSt w0 w' m L' M b S (N + 1) bt rows := by
  obtain ⟨L', r, heq⟩ := iso_mine m L M b i h0 h1 kind hk ky hs v e
  have hok := h.ok.apply 0 i ⟨kind, 0, ky, v, e⟩
  rw [heq] at hok
  refine (apply_to w _ _ _ (famS m L M b) S N (by omega) 0 i ⟨kind, 0, ky, v, e⟩ (famS m L' M b) r h.fam h.ok (size_small _ hs) heq (by simp only; omega) (by simp only; omega)).mono fun en w' ⟨he, hf, ho⟩ => ⟨L', r, he, hf, hok,
    h.tape.only ho (fun hh => (h.low bt hh).2 rfl) (fun k hk hh => by have := (h.low k hh).1; omega), h.below.trans (ho.below h.below.size (fun k hk => (h.low k hk).1)), h.low, fun k hk => Nat.lt_of_lt_of_le (h.high k hk) ho.size, fun p hp => ⟨(h.rows p hp).1.of_block (ho.block _ (h.rows p hp).2.2.2 (h.rows p hp).2.1), (h.rows p hp).2.1, (h.rows p hp).2.2.1, Nat.lt_of_lt_of_le (h.rows p hp).2.2.2 ho.size⟩⟩
theorem iso_stepB (h : IsoSt w0 w m L M b S N bt rows) (hN : N ≤ 1000) (i : Int) (h0 : 0 ≤ i) (h1 : i < 5) (kind : Int) (hk : kind = 1 ∨ kind = 5 ∨ kind = 10) (ky : ByteArray) (hs : ky.size ≤ 64) (v e : Int) :
    Calls Try.prog 10 #[.pointer (some ⟨w0.heap.size + 3, 0, none⟩), .int .i64 1, .int .i64 i, (OpD.mk kind 6 ky v e).val] w fun en w' =>
      ∃ M' r, en = .returned (.agg (ResD.cells r)) ∧ IsoSt w0 w' m L M' b S (N + 1) bt rows ∧ (b = true → M' = M) := by
  obtain ⟨M', r, heq, hMM⟩ := iso_other m L M b i h0 h1 kind hk ky hs v e
  have hok := h.ok.apply 1 i ⟨kind, 6, ky, v, e⟩
  rw [heq] at hok
  refine (apply_to w _ _ _ (famS m L M b) S N (by omega) 1 i ⟨kind, 6, ky, v, e⟩ (famS m L M' b) r h.fam h.ok (size_small _ hs) heq (by simp only; omega) (by simp only; omega)).mono fun en w' ⟨he, hf, ho⟩ => ⟨M', r, he, ⟨hf, hok,
    h.tape.only ho (fun hh => (h.low bt hh).2 rfl) (fun k hk hh => by have := (h.low k hh).1; omega), h.below.trans (ho.below h.below.size (fun k hk => (h.low k hk).1)), h.low, fun k hk => Nat.lt_of_lt_of_le (h.high k hk) ho.size, fun p hp => ⟨(h.rows p hp).1.of_block (ho.block _ (h.rows p hp).2.2.2 (h.rows p hp).2.1), (h.rows p hp).2.1, (h.rows p hp).2.2.1, Nat.lt_of_lt_of_le (h.rows p hp).2.2.2 ho.size⟩⟩, hMM⟩
theorem iso_contents (h : IsoSt w0 w m L M b S N bt rows) (hN : N ≤ 1000) (n : Int) (d : AMap) (hd : alook (famS m L M b).maps n = some d) :
    Calls Try.prog 13 #[.pointer (some ⟨w0.heap.size + 3, 0, none⟩), .int .i64 n] w fun e w' => ∃ g, e = .returned (.tuple #[.slice (some ⟨g, 0, none⟩) d.vals.length d.vals.length, .bool d.ro, .bool true]) ∧ IsoSt w0 w' m L M b S N bt ((g, sortedOf m d.vals) :: rows) := by
  refine (contents_A w _ _ _ (famS m L M b) S N (by omega) n d h.fam h.ok hd).mono fun e w' ⟨v, he, hl⟩ => ?_
  obtain ⟨g, hv, hs⟩ := h.row hl
  exact ⟨g, by rw [he, hv], hs⟩
end Go.Proofs.Ytagfghihnkkfiaa
