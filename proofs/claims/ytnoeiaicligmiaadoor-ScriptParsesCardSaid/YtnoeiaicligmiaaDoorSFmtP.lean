/- Plain laws of the text form, for the walk of Format; a buffer's beginning and its end. -/
import Derived.Test.YtnoeiaicligmiaaDoorSApp
import Derived.Laws.IdiomStrings
import Derived.Lib.BufferRead
namespace Go.Proofs.YtnoeiaicligmiaaDoor
set_option linter.unusedVariables false
set_option linter.unusedSimpArgs false
open Go Go.RowKit
def preT (m : Int) : List UInt8 := [109, 97, 115, 107, 32] ++ natT m ++ [10]
theorem textS_eq (s : ScrD) : textS s = preT s.mask ++ s.threads.flatMap threadT ++ picksW ++ s.picks.flatMap (fun p => 32 :: Lib.itoa p) ++ [10] := by
  simp [textS, preT, maskW, List.append_assoc]
theorem format_long (s : ScrD) (p r : List UInt8) (h : textS s = p ++ r) (hl : 1048576 < p.length) : formatS s = ([], 3) := by
  unfold formatS
  split
  · rfl
  · rw [if_pos]
    rw [h, List.length_append]
    unfold maxText
    omega
theorem format_bad (s : ScrD) (h : checkS s ≠ 0) : formatS s = ([], 3) := by
  unfold formatS; rw [if_pos h]
theorem check_or (s : ScrD) : checkS s = 0 ∨ checkS s = 3 := by
  unfold checkS
  split
  · exact Or.inr rfl
  · split
    · exact Or.inr rfl
    · exact Or.inl rfl
theorem check_len {s : ScrD} (h : checkS s = 0) : s.threads.length ≤ 8 := by
  unfold checkS at h
  split at h
  · omega
  · omega
theorem format_fine (s : ScrD) (h : checkS s = 0) (hl : (textS s).length ≤ 1048576) : formatS s = (textS s, 0) := by
  unfold formatS maxText; rw [if_neg (by simpa using h), if_neg (by omega)]
theorem take_flat {α : Type} (f : α → List UInt8) (l : List α) (k : Nat) (x : α) (h : l[k]? = some x) : (l.take (k + 1)).flatMap f = (l.take k).flatMap f ++ f x := by
  obtain ⟨hk, e⟩ := List.getElem?_eq_some_iff.1 h
  rw [List.take_succ_eq_append_getElem hk, List.flatMap_append, e]
  simp
theorem take_drop_flat {α : Type} (f : α → List UInt8) (l : List α) (k : Nat) : l.flatMap f = (l.take k).flatMap f ++ (l.drop k).flatMap f := by
  conv => lhs; rw [← List.take_append_drop k l]
  rw [List.flatMap_append]
theorem key_long (o : OpD) (h : 524288 < o.key.size) : 1048576 < (lineT o).length := by
  rw [Lib.size_eq] at h
  simp only [lineT, keyT, List.length_append, List.length_cons, List.length_nil, hex_len]
  omega
theorem Buf.shape {B : Nat} {w0 w : World} {v : Value} {l : List UInt8} (h : Buf B w0 w v l) : ∃ a cap, v = .slice a l.length cap := by
  rcases h.own.2 with ⟨rfl, h0⟩ | ⟨g, cap, cur, rfl, _⟩
  · exact ⟨none, 0, by rw [h0]⟩
  · exact ⟨_, cap, rfl⟩
theorem Buf.start (w : World) (l : List UInt8) (cs : Array Value) (m : Nat) (hm : l.length = m) (hcs : cs = (Lib.byteCells l).toArray) (hl : l.length ≤ 140737488355328) : Buf w.heap.size w (w.alloc (.cells cs 5)) (.slice (some ⟨w.heap.size, 0, none⟩) m m) l := by
  subst hcs
  subst hm
  refine ⟨⟨by simp [Lib.byteCells], .inr ⟨w.heap.size, l.length, _, rfl, Nat.le_refl _, (MapKept.heap_alloc w _).1, Nat.le_refl _, by unfold maxLen; omega, by simp [Lib.byteCells], ?_⟩⟩, (Below.refl _ _).alloc (Nat.le_refl _) _, ?_, by simp⟩
  · rw [List.take_of_length_le (by simp [Lib.byteCells])]
  · intro k x hk hn hx
    rw [Below.heap_alloc _ _ _ ((Array.getElem?_eq_some_iff.1 hk).1)]
    exact hk
theorem buf_string {B : Nat} {w0 w : World} {v : Value} {l : List UInt8} (h : Buf B w0 w v l) : (convert 22 9 v).run Tryd.prog w = .ok (.string ⟨l.toArray⟩) w := by
  rcases h.own.2 with ⟨rfl, h0⟩ | ⟨g, cap, cur, rfl, _, hg, _, _, _, htk⟩
  · obtain rfl : l = [] := List.length_eq_zero_iff.1 h0
    exact Lib.run_convert_nil_bytes w _ _ 5 0 Tryd.underlying22 (by kernel_rfl) Tryd.underlying9
  · exact run_convert_bytes_back w _ _ 5 _ _ l Tryd.underlying22 (by kernel_rfl) Tryd.underlying9 (Lib.bytes_of_row hg (by simpa using htk))
end Go.Proofs.YtnoeiaicligmiaaDoor
