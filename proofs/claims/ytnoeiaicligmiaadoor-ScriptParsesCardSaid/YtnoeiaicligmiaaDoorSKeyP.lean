/- The walk of the program's key (it reads the word of a key). -/
import Derived.Test.YtnoeiaicligmiaaDoorSRune
namespace Go.Proofs.YtnoeiaicligmiaaDoor
set_option linter.unusedVariables false
set_option linter.unusedSimpArgs false
open Go Go.RowKit
def keyR (l : List UInt8) : List UInt8 × Bool := match readKey l with | some k => (k, true) | none => ([], false)
theorem keyR_some {l k : List UInt8} (h : readKey l = some k) : keyR l = (k, true) := by unfold keyR; rw [h]
theorem keyR_none {l : List UInt8} (h : readKey l = none) : keyR l = ([], false) := by unfold keyR; rw [h]
theorem key_end {l k : List UInt8} {b : Bool} (h : keyR l = (k, b)) : Ending.returned (.tuple #[.string ⟨k.toArray⟩, .bool b]) = .returned (.tuple #[.string ⟨(keyR l).1.toArray⟩, .bool (keyR l).2]) := by rw [h]
theorem readKey_x (r : List UInt8) : readKey (120 :: r) = hexes r := rfl
theorem readKey_no {l : List UInt8} (h : l.head? ≠ some 120) : readKey l = none := by
  unfold readKey
  split
  · simp at h
  · rfl
theorem index_hexI (b : UInt8) : Lib.indexByte digs16.data.toList b = hexI b := by
  have : ∀ k : Fin 256, Lib.indexByte digs16.data.toList (UInt8.ofNat k.val) = hexI (UInt8.ofNat k.val) := by decide +kernel
  have h := this ⟨b.toNat, UInt8.toNat_lt b⟩
  simpa using h
theorem hexI_lt (b : UInt8) : hexI b < 16 := by
  have : ∀ k : Fin 256, hexI (UInt8.ofNat k.val) < 16 := by decide +kernel
  have h := this ⟨b.toNat, UInt8.toNat_lt b⟩
  simpa using h
theorem hexV_of {b : UInt8} (h : 0 ≤ hexI b) : hexV b = some (hexI b).toNat := by
  unfold hexI at h ⊢
  cases hv : hexV b with
  | none => rw [hv] at h; simp at h
  | some n => simp
theorem hexV_neg {b : UInt8} (h : hexI b < 0) : hexV b = none := by
  unfold hexI at h
  cases hv : hexV b with
  | none => rfl
  | some n => rw [hv] at h; simp only at h; omega
theorem hexV_high {b : UInt8} (h : 128 ≤ b.toNat) : hexV b = none := by
  unfold hexV
  rw [if_neg (by omega), if_neg (by omega)]
theorem hexes_odd : ∀ (n : Nat) (l : List UInt8), l.length = 2 * n + 1 → hexes l = none
  | 0, [a], _ => rfl
  | n + 1, a :: b :: r, h => by
    have := hexes_odd n r (by simp only [List.length_cons] at h; omega)
    unfold hexes
    rw [this]
    split
    · simp_all
    · rfl
theorem hexes_one {a : UInt8} {r : List UInt8} (h : hexV a = none) : hexes (a :: r) = none := by
  cases r with
  | nil => rfl
  | cons b r => unfold hexes; rw [h]
theorem hexes_two {a b : UInt8} {r : List UInt8} (h : hexV b = none) : hexes (a :: b :: r) = none := by
  unfold hexes; rw [h]
  split
  · simp_all
  · rfl
theorem hexes_more {a b : UInt8} {r : List UInt8} {x y : Nat} (h : hexV a = some x) (h' : hexV b = some y) : hexes (a :: b :: r) = (hexes r).map (UInt8.ofNat (x * 16 + y) :: ·) := by
  conv => lhs; unfold hexes
  rw [h, h']
  cases hexes r <;> rfl
/-- what has been read when the j-th byte is next -/
def KeySt (l : List UInt8) (j : Nat) (bs : List UInt8) (h : Nat) : Prop :=
  (j % 2 = 0 ∧ hexes l = (hexes (l.drop j)).map (bs ++ ·)) ∨ (j % 2 = 1 ∧ ∃ a, l[j - 1]? = some a ∧ hexV a = some h ∧ hexes l = (hexes (l.drop (j - 1))).map (bs ++ ·))
theorem KeySt.start (l : List UInt8) : KeySt l 0 [] 0 := Or.inl ⟨rfl, by simp⟩
theorem drop_cons {l : List UInt8} {j : Nat} {a : UInt8} (h : l[j]? = some a) : l.drop j = a :: l.drop (j + 1) := by
  obtain ⟨hj, e⟩ := List.getElem?_eq_some_iff.1 h
  rw [List.drop_eq_getElem_cons hj, e]
theorem KeySt.high {l : List UInt8} {j : Nat} {bs : List UInt8} {h : Nat} (hs : KeySt l j bs h) (he : j % 2 = 0) {b : UInt8} (hb : l[j]? = some b) {x : Nat} (hx : hexV b = some x) : KeySt l (j + 1) bs x := by
  rcases hs with ⟨_, h1⟩ | ⟨h0, _⟩
  · exact Or.inr ⟨by omega, b, by simpa using hb, hx, by simpa using h1⟩
  · omega
theorem KeySt.low {l : List UInt8} {j : Nat} {bs : List UInt8} {h : Nat} (hs : KeySt l j bs h) (he : j % 2 = 1) {b : UInt8} (hb : l[j]? = some b) {x : Nat} (hx : hexV b = some x) : KeySt l (j + 1) (bs ++ [UInt8.ofNat (h * 16 + x)]) h := by
  rcases hs with ⟨h0, _⟩ | ⟨_, a, ha, hv, h1⟩
  · omega
  · refine Or.inl ⟨by omega, ?_⟩
    have e1 := drop_cons ha
    rw [show j - 1 + 1 = j by omega, drop_cons hb] at e1
    rw [h1, e1, hexes_more hv hx, Option.map_map]
    congr 1
    funext k
    simp
theorem KeySt.bad {l : List UInt8} {j : Nat} {bs : List UInt8} {h : Nat} (hs : KeySt l j bs h) {b : UInt8} (hb : l[j]? = some b) (hx : hexV b = none) : hexes l = none := by
  rcases hs with ⟨_, h1⟩ | ⟨h0, a, ha, hv, h1⟩
  · rw [h1, drop_cons hb, hexes_one hx]; rfl
  · have e1 := drop_cons ha
    rw [show j - 1 + 1 = j by omega, drop_cons hb] at e1
    rw [h1, e1, hexes_two hx]; rfl
theorem KeySt.done {l : List UInt8} {bs : List UInt8} {h : Nat} (hs : KeySt l l.length bs h) (he : l.length % 2 = 0) : hexes l = some bs := by
  rcases hs with ⟨_, h1⟩ | ⟨h0, _⟩
  · rw [h1, List.drop_length]; simp [hexes]
  · omega
theorem Buf.iter {B : Nat} {w0 w : World} {v : Value} {l : List UInt8} (h : Buf B w0 w v l) {K : Nat} {s : ByteArray} {p : Nat} (hk : w.heap[K]? = some (.stringIter s p)) (hB : B ≤ K) (hK : w0.heap.size ≤ K) (p' : Nat) : Buf B w0 (w.iterAt K s p') v l := by
  refine ⟨⟨h.own.1, ?_⟩, Lib.below_iterAt h.below hB _ _, ?_, by rw [Lib.iterAt_size]; exact h.size⟩
  · rcases h.own.2 with h0 | ⟨g, cap, cur, hv, hb, hg, r⟩
    · exact Or.inl h0
    · refine Or.inr ⟨g, cap, cur, hv, hb, ?_, r⟩
      rw [Lib.iterAt_other]
      · exact hg
      · intro e; subst e; rw [hk] at hg; simp at hg
  · intro k o hk' hn hx
    have hlt := (Array.getElem?_eq_some_iff.1 hk').1
    rw [Lib.iterAt_other _ _ _ _ _ (by omega)]
    exact h.kept k o hk' hn hx
theorem Buf.iterKept {B : Nat} {w0 w : World} {v : Value} {l : List UInt8} (h : Buf B w0 w v l) {K : Nat} {s : ByteArray} {p : Nat} (hk : w0.heap[K]? = some (.stringIter s p)) : w.heap[K]? = some (.stringIter s p) :=
  h.kept K _ hk (by simp) (fun _ _ e => by simp at e)
end Go.Proofs.YtnoeiaicligmiaaDoor
