/- Numbers, keys, words and lines: writing and reading. No program in sight. -/
import Derived.Test.YtnoeiaicligmiaaDoorSPlain
namespace Go.Proofs.YtnoeiaicligmiaaDoor
set_option linter.unusedVariables false
set_option linter.unusedSimpArgs false
open Go
theorem linesOf_line (l r : List UInt8) (h : ∀ b ∈ l, b ≠ 10) : linesOf (l ++ 10 :: r) = (l :: (linesOf r).1, (linesOf r).2) := by
  induction l with
  | nil => simp [linesOf]
  | cons b t ih =>
    have hb : b ≠ 10 := h b (.head _)
    rw [List.cons_append, linesOf, if_neg hb, ih (fun x hx => h x (.tail _ hx))]
theorem linesOf_none (l : List UInt8) (h : ∀ b ∈ l, b ≠ 10) : linesOf l = ([], l) := by
  induction l with
  | nil => simp [linesOf]
  | cons b t ih =>
    have hb : b ≠ 10 := h b (.head _)
    rw [linesOf, if_neg hb, ih (fun x hx => h x (.tail _ hx))]
theorem words_one (a : List UInt8) (h : ∀ b ∈ a, b ≠ 32) : words a = [a] := by
  induction a with
  | nil => rfl
  | cons b t ih =>
    have hb : b ≠ 32 := h b (.head _)
    rw [words, if_neg hb, ih (fun x hx => h x (.tail _ hx))]
theorem words_cons (a r : List UInt8) (h : ∀ b ∈ a, b ≠ 32) : words (a ++ 32 :: r) = a :: words r := by
  induction a with
  | nil => simp [words]
  | cons b t ih =>
    have hb : b ≠ 32 := h b (.head _)
    rw [List.cons_append, words, if_neg hb, ih (fun x hx => h x (.tail _ hx))]
theorem words_ne (l : List UInt8) : words l ≠ [] := by
  cases l with
  | nil => simp [words]
  | cons b t =>
    rw [words]
    split
    · simp
    · cases words t <;> simp
/-- what stands between the spaces, put together again -/
def joinW : List (List UInt8) → List UInt8
  | [] => []
  | [a] => a
  | a :: r => a ++ 32 :: joinW r
theorem joinW_words (l : List UInt8) : joinW (words l) = l := by
  induction l with
  | nil => rfl
  | cons b t ih =>
    rw [words]
    cases hw : words t with
    | nil => exact absurd hw (words_ne t)
    | cons x xs =>
      rw [hw] at ih
      by_cases hb : b = 32
      · rw [if_pos hb]
        simp only [joinW, List.nil_append]
        rw [ih, hb]
      · rw [if_neg hb]
        cases xs with
        | nil => simp only [joinW] at ih ⊢; rw [ih]
        | cons y ys => simp only [joinW, List.cons_append] at ih ⊢; rw [ih]
theorem lines_join (l : List UInt8) : (linesOf l).1.flatMap (fun x => x ++ [10]) ++ (linesOf l).2 = l := by
  induction l with
  | nil => rfl
  | cons b t ih =>
    rw [linesOf]
    by_cases hb : b = 10
    · rw [if_pos hb]
      simp only [List.flatMap_cons, List.nil_append, List.cons_append, List.append_assoc]
      rw [ih, hb]
    · rw [if_neg hb]
      cases hl : (linesOf t).1 with
      | nil =>
        rw [hl] at ih
        simp only [List.flatMap_nil, List.nil_append] at ih ⊢
        rw [ih]
      | cons x xs =>
        rw [hl] at ih
        simp only [List.flatMap_cons, List.cons_append, List.append_assoc] at ih ⊢
        rw [ih]
/-! ### decimal numbers -/
theorem digits_append (a b : List UInt8) (acc : Nat) : digits acc (a ++ b) = (digits acc a).bind (fun x => digits x b) := by
  induction a generalizing acc with
  | nil => simp [digits]
  | cons c t ih =>
    rw [List.cons_append, digits, digits]
    split
    · exact ih _
    · rfl
theorem dec_one (n : Nat) (h : n < 10) : Lib.decDigits n = [UInt8.ofNat (48 + n)] := by rw [Lib.decDigits, dif_pos h]
theorem dec_more (n : Nat) (h : ¬ n < 10) : Lib.decDigits n = Lib.decDigits (n / 10) ++ [UInt8.ofNat (48 + n % 10)] := by rw [Lib.decDigits, dif_neg h]
theorem ofNat_dig (k : Nat) (h : k < 10) : (UInt8.ofNat (48 + k)).toNat = 48 + k := by
  rw [UInt8.toNat_ofNat']
  omega
theorem dec_digs (n : Nat) : ∀ b ∈ Lib.decDigits n, 48 ≤ b.toNat ∧ b.toNat ≤ 57 := by
  induction n using Nat.strongRecOn with
  | _ n ih =>
    by_cases h : n < 10
    · rw [dec_one n h]
      intro b hb
      simp only [List.mem_singleton] at hb
      subst hb
      rw [ofNat_dig n h]
      omega
    · rw [dec_more n h]
      intro b hb
      rcases List.mem_append.1 hb with hb | hb
      · exact ih (n / 10) (by omega) b hb
      · simp only [List.mem_singleton] at hb
        subst hb
        rw [ofNat_dig _ (by omega)]
        omega
theorem dec_ne (n : Nat) : Lib.decDigits n ≠ [] := by
  by_cases h : n < 10
  · rw [dec_one n h]; simp
  · rw [dec_more n h]; simp
theorem digits_one (acc : Nat) (b : UInt8) (h0 : 48 ≤ b.toNat) (h1 : b.toNat ≤ 57) (h2 : acc * 10 + (b.toNat - 48) < 18446744073709551616) : digits acc [b] = some (acc * 10 + (b.toNat - 48)) := by
  rw [digits, if_pos ⟨h0, h1, h2⟩, digits]
theorem digits_dec (n : Nat) (h : n < 18446744073709551616) : digits 0 (Lib.decDigits n) = some n := by
  induction n using Nat.strongRecOn with
  | _ n ih =>
    by_cases h10 : n < 10
    · have ho := ofNat_dig n h10
      rw [dec_one n h10, digits_one 0 _ (by omega) (by omega) (by omega), ho]
      congr 1
      omega
    · have ho := ofNat_dig (n % 10) (by omega)
      rw [dec_more n h10, digits_append, ih (n / 10) (by omega) (by omega)]
      show digits (n / 10) [UInt8.ofNat (48 + n % 10)] = some n
      rw [digits_one _ _ (by omega) (by omega) (by omega), ho]
      congr 1
      omega
theorem dec_head (n : Nat) (h : 1 ≤ n) : (Lib.decDigits n).head? ≠ some 48 := by
  induction n using Nat.strongRecOn with
  | _ n ih =>
    by_cases h10 : n < 10
    · rw [dec_one n h10]
      intro he
      simp only [List.head?_cons, Option.some.injEq] at he
      have := congrArg UInt8.toNat he
      rw [ofNat_dig n h10] at this
      have h48 : (48 : UInt8).toNat = 48 := rfl
      omega
    · rw [dec_more n h10]
      have := ih (n / 10) (by omega) (by omega)
      cases hd : Lib.decDigits (n / 10) with
      | nil => exact absurd hd (dec_ne _)
      | cons x xs =>
        rw [hd] at this
        simpa using this
theorem readNat_dec (n : Nat) (h : n < 18446744073709551616) : readNat (Lib.decDigits n) = some n := by
  have hd := digits_dec n h
  by_cases h10 : n < 10
  · rw [dec_one n h10] at hd ⊢
    exact hd
  · have hh := dec_head n (by omega)
    have hl := dec_more n h10
    cases hc : Lib.decDigits n with
    | nil => exact absurd hc (dec_ne n)
    | cons b t =>
      rw [hc] at hd hh hl
      cases t with
      | nil =>
        have := congrArg List.length hl
        have h1 : 1 ≤ (Lib.decDigits (n / 10)).length := by
          cases hq : Lib.decDigits (n / 10) with
          | nil => exact absurd hq (dec_ne _)
          | cons _ _ => simp
        simp only [List.length_cons, List.length_nil, List.length_append] at this
        omega
      | cons c u =>
        rw [readNat]
        · rw [if_neg (by simpa using hh)]
          exact hd
        · simp
end Go.Proofs.YtnoeiaicligmiaaDoor
