/- Contracts of package model over families as plain data, for the laws. -/
import Derived.Test.YtbmoehndnbbhcaaGreatDoorMModP
import Derived.Test.YtbmoehndnbbhcaaGreatDoorMModH
namespace Go.Proofs.YtbmoehndnbbhcaaGreatDoor
set_option linter.unusedVariables false
set_option linter.unusedSimpArgs false
open Go.RowKit Go.MapKept
theorem apply_to (w : World) (bf bm bi : Nat) (A : AFam) (S : Nat → Prop) (N : Nat) (hN : N ≤ 1099511627776) (t i : Int) (o : OpD) (A' : AFam) (r : ResD) (h : FamA w bf bm bi A S) (hok : OkA N A) (hk : o.key.size ≤ maxLen) (heq : applyA A t i o = (A', r)) (h8 : o.kind ≠ 8) (h9 : o.kind ≠ 9) :
    Calls Tryz.prog 21 #[.pointer (some ⟨bf, 0, none⟩), .int .i64 t, .int .i64 i, o.val] w fun e w' =>
      e = .returned (.agg r.cells) ∧ FamA w' bf bm bi A' S ∧ Only S w w' := by
  refine (apply_B w bf bm bi A S N hN h hok t i o hk h8 h9).mono fun e w' ⟨h1, h2, h3⟩ => ⟨?_, ?_, h3⟩
  · rw [h1, heq]
  · rw [heq] at h2; exact h2
theorem copy_to (w : World) (bf bm bi : Nat) (A : AFam) (S : Nat → Prop) (N : Nat) (hN : N ≤ 1099511627776) (t i : Int) (o : OpD) (A' : AFam) (r : ResD) (h : FamA w bf bm bi A S) (hok : OkA N A) (hk : o.key.size ≤ maxLen) (heq : applyA A t i o = (A', r)) :
    Calls Tryz.prog 21 #[.pointer (some ⟨bf, 0, none⟩), .int .i64 t, .int .i64 i, o.val] w fun e w' =>
      e = .returned (.agg r.cells) ∧ FamA w' bf bm bi A' (fun k => S k ∨ (w.heap.size ≤ k ∧ k < w'.heap.size)) ∧ Only S w w' := by
  refine (apply_A w bf bm bi A S N hN h hok t i o hk).mono fun e w' ⟨h1, h2, h3⟩ => ⟨?_, ?_, h3⟩
  · rw [h1, heq]
  · rw [heq] at h2; exact h2
theorem contents_A (w : World) (bf bm bi : Nat) (A : AFam) (S : Nat → Prop) (N : Nat) (hN : N ≤ 1099511627776) (n : Int) (d : AMap) (h : FamA w bf bm bi A S) (hok : OkA N A) (hd : alook A.maps n = some d) :
    Calls Tryz.prog 57 #[.pointer (some ⟨bf, 0, none⟩), .int .i64 n] w fun e w' => ∃ v, e = .returned (.tuple #[v, .bool d.ro, .bool true]) ∧ ListPost w d.vals A.mask v w' := by
  obtain ⟨F, h1, rfl, h3⟩ := h
  have hd' := hd
  simp only [FamD.abs, alook_amap] at hd'
  obtain ⟨f, hf, rfl⟩ := Option.map_eq_some_iff.1 hd'
  exact contents_some w bf bm bi F N hN hok.fam h1 n f hf
/-- the new family -/
def famO (m : Int) : AFam := ⟨m, [(0, ⟨[], false⟩)], []⟩
def blk4 (B k : Nat) : Prop := B ≤ k ∧ k < B + 4
theorem new_A (w : World) (m : Int) :
    Calls Tryz.prog 18 #[.int .u64 m] w fun e w' => e = .returned (.pointer (some ⟨w.heap.size + 3, 0, none⟩)) ∧ Below w.heap.size w w' ∧ w.heap.size + 3 < w'.heap.size ∧
      FamA w' (w.heap.size + 3) w.heap.size (w.heap.size + 2) (famO m) (blk4 w.heap.size) := by
  refine (new_any w m).mono fun e w' ⟨he, hb, hf⟩ => ⟨he, hb, hf.lt (Or.inl rfl), _, hf, rfl, fun k hk => ?_⟩
  rcases hk with rfl | rfl | rfl | ⟨p, hp, rfl⟩
  · exact ⟨by omega, by omega⟩
  · exact ⟨by omega, by omega⟩
  · exact ⟨by omega, by omega⟩
  · simp only [List.mem_singleton] at hp
    subst hp
    exact ⟨by simp, by simp⟩
theorem famO_ok (m : Int) (h0 : 0 ≤ m) (h1 : m ≤ 18446744073709551615) : OkA 1 (famO m) :=
  ⟨h0, h1, by simp [famO], by simp [famO], by simp [famO], by simp [famO], by simp [famO]⟩
/-- a result that lies in a block of its own -/
def ResAt (w : World) (b : Nat) (r : ResD) : Prop := w.heap[b]? = some (.cells r.cells 45 (0, 0))
theorem ResAt.lt {w : World} {b : Nat} {r : ResD} (h : ResAt w b r) : b < w.heap.size := (Array.getElem?_eq_some_iff.1 h).1
theorem ResAt.only {w w' : World} {b : Nat} {r : ResD} {S : Nat → Prop} (h : ResAt w b r) (ho : Only S w w') (hs : ¬ S b) : ResAt w' b r := (ho.block b h.lt hs).trans h
theorem ResAt.below {w w' : World} {b : Nat} {r : ResD} (h : ResAt w b r) (ho : Below w.heap.size w w') : ResAt w' b r := (ho.block b h.lt).trans h
theorem ResAt.alloc {w : World} {b : Nat} {r : ResD} (h : ResAt w b r) (o : Obj) : ResAt (w.alloc o) b r := (alloc_old w o b h.lt).trans h
theorem ResAt.made (w : World) (r : ResD) : ResAt (w.alloc (.cells r.cells 45)) w.heap.size r := alloc_here w _
theorem ResAt.cell {w : World} {b : Nat} {r : ResD} (h : ResAt w b r) (j : Nat) : w.cell? ⟨b, j, none⟩ = r.cells[j]? := blk_cell h j
theorem Only.size_le {S : Nat → Prop} {a b : World} (h : Only S a b) : a.heap.size ≤ b.heap.size := h.size
end Go.Proofs.YtbmoehndnbbhcaaGreatDoor
