/- Cut and Split of the library are the lines and the words of the plain law. -/
import Derived.Test.YtnoeiaicligmiaaDoorSNum
import Derived.Lib.Split
import Derived.Lib.IndexMore
namespace Go.Proofs.YtnoeiaicligmiaaDoor
set_option linter.unusedVariables false
set_option linter.unusedSimpArgs false
open Go
theorem idx_cases (l : List UInt8) (c : UInt8) : (Lib.index l [c] = -1 ∧ ∀ b ∈ l, b ≠ c) ∨ ∃ a r, l = a ++ c :: r ∧ (∀ b ∈ a, b ≠ c) ∧ Lib.index l [c] = (a.length : Int) := by
  induction l with
  | nil => exact Or.inl ⟨rfl, by simp⟩
  | cons b l ih =>
    by_cases h : b = c
    · subst h
      refine Or.inr ⟨[], l, rfl, by simp, ?_⟩
      simp [Lib.index, List.isPrefixOf]
    · have hp : ([c].isPrefixOf (b :: l)) = false := by simp [List.isPrefixOf, Ne.symm h]
      rcases ih with ⟨h1, h2⟩ | ⟨a, r, h1, h2, h3⟩
      · refine Or.inl ⟨?_, ?_⟩
        · unfold Lib.index; rw [hp, h1]; rfl
        · intro x hx
          simp only [List.mem_cons] at hx
          rcases hx with rfl | hx
          · exact h
          · exact h2 x hx
      · refine Or.inr ⟨b :: a, r, by rw [h1]; rfl, ?_, ?_⟩
        · intro x hx
          simp only [List.mem_cons] at hx
          rcases hx with rfl | hx
          · exact h
          · exact h2 x hx
        · unfold Lib.index
          rw [hp, h3]
          have : ((a.length : Int) == -1) = false := by simp <;> omega
          rw [this]
          simp
theorem splitK_words : ∀ (fuel : Nat) (l : List UInt8), l.length < fuel → Lib.splitK [32] 0 (Lib.countFrom [32] fuel l) l = words l
  | 0, l, h => by omega
  | fuel + 1, l, h => by
    rcases idx_cases l 32 with ⟨h1, h2⟩ | ⟨a, r, h1, h2, h3⟩
    · unfold Lib.countFrom
      rw [h1]
      simp only [beq_self_eq_true, if_true]
      rw [words_one l h2]
      rfl
    · unfold Lib.countFrom
      rw [h3]
      have e : ((a.length : Int) == -1) = false := by simp <;> omega
      rw [e]
      simp only [Bool.false_eq_true, if_false, Int.toNat_natCast, List.length_cons, List.length_nil, Nat.zero_add]
      rw [Nat.add_comm 1]
      unfold Lib.splitK
      rw [h3, e]
      simp only [Bool.false_eq_true, if_false, Int.toNat_natCast, List.length_cons, List.length_nil, Nat.zero_add, Nat.add_zero]
      have hd : l.drop (a.length + 1) = r := by rw [h1]; simp
      have ht : l.take a.length = a := by rw [h1]; simp
      rw [hd, ht, splitK_words fuel r (by rw [h1] at h; simp at h; omega)]
      conv => rhs; rw [h1, words_cons a r h2]
theorem split_words (l : List UInt8) : Lib.splitK [32] 0 (Lib.count l [32]) l = words l := splitK_words _ l (by omega)
theorem words_len (l : List UInt8) : (words l).length ≤ l.length + 1 ∧ ∀ x ∈ words l, x.length ≤ l.length := by
  induction l with
  | nil => simp [words]
  | cons b r ih =>
    unfold words
    split
    · refine ⟨by simp; omega, ?_⟩
      intro x hx
      simp only [List.mem_cons] at hx
      rcases hx with rfl | hx
      · simp
      · have := ih.2 x hx; simp; omega
    · split
      · next h => exact absurd h (words_ne r)
      · next y ys h =>
        rw [h] at ih
        refine ⟨by have := ih.1; simp at this ⊢; omega, ?_⟩
        intro x hx
        simp only [List.mem_cons] at hx
        rcases hx with rfl | hx
        · have := ih.2 y (by simp); simp; omega
        · have := ih.2 x (by simp [hx]); simp; omega
theorem cut_none (l : List UInt8) (h : ∀ b ∈ l, b ≠ 10) : Lib.cut l [10] = (l, [], false) := by
  rcases idx_cases l 10 with ⟨h1, _⟩ | ⟨a, r, h1, _, _⟩
  · unfold Lib.cut; rw [h1]; rfl
  · exact absurd rfl (h 10 (by rw [h1]; simp))
theorem cut_line (a r : List UInt8) (h : ∀ b ∈ a, b ≠ 10) : Lib.cut (a ++ 10 :: r) [10] = (a, r, true) := by
  rcases idx_cases (a ++ 10 :: r) 10 with ⟨_, h2⟩ | ⟨a', r', h1, h2, h3⟩
  · exact absurd rfl (h2 10 (by simp))
  · have e : a = a' ∧ r = r' := by
      have hl : ∀ (x y u v : List UInt8), (∀ b ∈ x, b ≠ 10) → (∀ b ∈ y, b ≠ 10) → x ++ 10 :: u = y ++ 10 :: v → x = y ∧ u = v := by
        intro x
        induction x with
        | nil =>
          intro y u v hx hy he
          cases y with
          | nil => simpa using he
          | cons c y => simp at he; exact absurd he.1.symm (hy c (by simp))
        | cons c x ih =>
          intro y u v hx hy he
          cases y with
          | nil => simp at he; exact absurd he.1 (hx c (by simp))
          | cons d y =>
            simp only [List.cons_append, List.cons.injEq] at he
            obtain ⟨rfl, he⟩ := he
            obtain ⟨rfl, rfl⟩ := ih y u v (fun b hb => hx b (by simp [hb])) (fun b hb => hy b (by simp [hb])) he
            exact ⟨rfl, rfl⟩
      exact hl _ _ _ _ h h2 h1
    obtain ⟨rfl, rfl⟩ := e
    unfold Lib.cut
    rw [h3, if_pos (by omega)]
    simp
/-- a text is empty, or has a first line that ends, or is a line that does not end -/
theorem line_cases (l : List UInt8) : (∀ b ∈ l, b ≠ 10) ∨ ∃ a r, l = a ++ 10 :: r ∧ ∀ b ∈ a, b ≠ 10 := by
  rcases idx_cases l 10 with ⟨_, h2⟩ | ⟨a, r, h1, h2, _⟩
  · exact Or.inl h2
  · exact Or.inr ⟨a, r, h1, h2⟩
end Go.Proofs.YtnoeiaicligmiaaDoor
