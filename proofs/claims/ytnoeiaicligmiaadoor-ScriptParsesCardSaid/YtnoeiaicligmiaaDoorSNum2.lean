/- Numbers and keys: reading is the inverse of writing. No program in sight. -/
import Derived.Test.YtnoeiaicligmiaaDoorSNum
namespace Go.Proofs.YtnoeiaicligmiaaDoor
set_option linter.unusedVariables false
set_option linter.unusedSimpArgs false
open Go
theorem digits_le {l : List UInt8} {acc n : Nat} (h : digits acc l = some n) : acc ≤ n := by
  induction l generalizing acc with
  | nil => simp only [digits, Option.some.injEq] at h; omega
  | cons b t ih =>
    rw [digits] at h
    split at h
    · have := ih h; omega
    · simp at h
theorem digits_cons {b : UInt8} {t : List UInt8} {acc n : Nat} (h : digits acc (b :: t) = some n) : 48 ≤ b.toNat ∧ b.toNat ≤ 57 ∧ acc * 10 + (b.toNat - 48) < 18446744073709551616 ∧ digits (acc * 10 + (b.toNat - 48)) t = some n := by
  rw [digits] at h
  split at h
  · rename_i hc
    exact ⟨hc.1, hc.2.1, hc.2.2, h⟩
  · simp at h
theorem byte_dig (b : UInt8) (h0 : 48 ≤ b.toNat) : UInt8.ofNat (48 + (b.toNat - 48)) = b := by
  rw [show 48 + (b.toNat - 48) = b.toNat by omega]
  simp
theorem digits_bound {l : List UInt8} {acc n : Nat} (h : digits acc l = some n) (ha : acc < 18446744073709551616) : n < 18446744073709551616 := by
  induction l generalizing acc with
  | nil => simp only [digits, Option.some.injEq] at h; omega
  | cons b t ih =>
    obtain ⟨_, _, h3, h4⟩ := digits_cons h
    exact ih h4 h3
theorem dec_of_digits : ∀ (k : Nat) (l : List UInt8) (n : Nat), l.length = k → l ≠ [] → (l.head? ≠ some 48 ∨ l.length = 1) → digits 0 l = some n → Lib.decDigits n = l := by
  intro k
  induction k using Nat.strongRecOn with
  | _ k ih =>
    intro l n hl hne hh hd
    have e := List.dropLast_concat_getLast hne
    generalize hb : l.getLast hne = b at e
    generalize hdl : l.dropLast = d at e
    clear hb hdl
    subst e
    rw [digits_append] at hd
    cases hm : digits 0 d with
    | none => rw [hm] at hd; simp at hd
    | some m =>
      rw [hm] at hd
      obtain ⟨b0, b1, b2, b3⟩ := digits_cons (show digits m [b] = some n from hd)
      simp only [digits, Option.some.injEq] at b3
      cases d with
      | nil =>
        simp only [digits, Option.some.injEq] at hm
        subst hm
        rw [dec_one n (by omega), ← b3]
        simp only [List.nil_append, Nat.zero_mul, Nat.zero_add]
        rw [byte_dig b b0]
      | cons c u =>
        have hc : c ≠ 48 := by
          rcases hh with hh | hh
          · simpa using hh
          · simp at hh
        obtain ⟨c0, c1, c2, c3⟩ := digits_cons hm
        have hcn : c.toNat ≠ 48 := fun hx => hc (UInt8.toNat_inj.1 hx)
        have hmp := digits_le c3
        have hd2 := ih (c :: u).length (by simp at hl ⊢; omega) (c :: u) m rfl (by simp) (Or.inl (by simpa using hc)) hm
        rw [dec_more n (by omega), show n / 10 = m by omega, hd2, show n % 10 = b.toNat - 48 by omega, byte_dig b b0]
theorem readNat_inv {l : List UInt8} {n : Nat} (h : readNat l = some n) : Lib.decDigits n = l ∧ n < 18446744073709551616 := by
  unfold readNat at h
  split at h
  · simp at h
  · exact ⟨dec_of_digits 1 _ n rfl (by simp) (Or.inr rfl) h, digits_bound h (by omega)⟩
  · rename_i b r hx
    split at h
    · simp at h
    · rename_i hb
      exact ⟨dec_of_digits _ _ n rfl (by simp) (Or.inl (by simpa using hb)) h, digits_bound h (by omega)⟩
theorem dec_first (n : Nat) : ∃ b t, Lib.decDigits n = b :: t ∧ 48 ≤ b.toNat ∧ b.toNat ≤ 57 := by
  cases h : Lib.decDigits n with
  | nil => exact absurd h (dec_ne n)
  | cons b t => exact ⟨b, t, rfl, dec_digs n b (by rw [h]; exact .head _)⟩
theorem readInt_itoa (i : Int) (h0 : -9223372036854775808 ≤ i) (h1 : i ≤ 9223372036854775807) : readInt (Lib.itoa i) = some i := by
  unfold Lib.itoa
  by_cases hn : i < 0
  · rw [if_pos hn]
    unfold readInt
    simp only
    rw [readNat_dec i.natAbs (by omega)]
    simp only
    rw [if_neg (by omega)]
    congr 1
    omega
  · rw [if_neg hn]
    have hr := readNat_dec i.toNat (by omega)
    obtain ⟨b, t, hb, b0, b1⟩ := dec_first i.toNat
    rw [hb] at hr ⊢
    unfold readInt
    split
    · rename_i heq
      simp only [List.cons.injEq] at heq
      have := congrArg UInt8.toNat heq.1
      have h45 : (45 : UInt8).toNat = 45 := rfl
      omega
    · rw [hr]
      simp only
      rw [if_neg (by omega)]
      congr 1
      omega
theorem readInt_inv {l : List UInt8} {i : Int} (h : readInt l = some i) : Lib.itoa i = l ∧ -9223372036854775808 ≤ i ∧ i ≤ 9223372036854775807 := by
  unfold readInt at h
  split at h
  · rename_i r
    cases hn : readNat r with
    | none => rw [hn] at h; simp at h
    | some n =>
      rw [hn] at h
      simp only at h
      split at h
      · simp at h
      · rename_i hc
        simp only [Option.some.injEq] at h
        subst h
        obtain ⟨h1, h2⟩ := readNat_inv hn
        refine ⟨?_, by omega, by omega⟩
        unfold Lib.itoa
        rw [if_pos (by omega), show (-(n : Int)).natAbs = n by omega, h1]
  · cases hn : readNat l with
    | none => rw [hn] at h; simp at h
    | some n =>
      rw [hn] at h
      simp only at h
      split at h
      · simp at h
      · rename_i hc
        simp only [Option.some.injEq] at h
        subst h
        obtain ⟨h1, h2⟩ := readNat_inv hn
        refine ⟨?_, by omega, by omega⟩
        unfold Lib.itoa
        rw [if_neg (by omega), show ((n : Int)).toNat = n by omega, h1]
theorem hexV_hexD (n : Nat) (h : n < 16) : hexV (hexD n) = some n := by
  have : ∀ k : Fin 16, hexV (hexD k.val) = some k.val := by decide
  exact this ⟨n, h⟩
theorem hexD_hexV (b : UInt8) (n : Nat) (h : hexV b = some n) : hexD n = b ∧ n < 16 := by
  unfold hexV at h
  split at h
  · rename_i hc
    simp only [Option.some.injEq] at h
    subst h
    refine ⟨?_, by omega⟩
    unfold hexD
    rw [if_pos (by omega)]
    exact byte_dig b hc.1
  · split at h
    · rename_i hc
      simp only [Option.some.injEq] at h
      subst h
      refine ⟨?_, by omega⟩
      unfold hexD
      rw [if_neg (by omega), show 87 + (b.toNat - 87) = b.toNat by omega]
      simp
    · simp at h
theorem hexes_key (k : List UInt8) : hexes (k.flatMap (fun b => [hexD (b.toNat / 16), hexD (b.toNat % 16)])) = some k := by
  induction k with
  | nil => rfl
  | cons b t ih =>
    have hb := UInt8.toNat_lt b
    simp only [List.flatMap_cons, List.cons_append, List.nil_append]
    rw [hexes, hexV_hexD _ (by omega), hexV_hexD _ (by omega), ih]
    simp only [Option.some.injEq, List.cons.injEq, and_true]
    rw [show b.toNat / 16 * 16 + b.toNat % 16 = b.toNat by omega]
    simp
theorem key_hexes : ∀ (n : Nat) (l k : List UInt8), l.length ≤ n → hexes l = some k → k.flatMap (fun b => [hexD (b.toNat / 16), hexD (b.toNat % 16)]) = l := by
  intro n
  induction n with
  | zero =>
    intro l k hl h
    cases l with
    | nil => simp only [hexes, Option.some.injEq] at h; subst h; rfl
    | cons _ _ => simp at hl
  | succ n ih =>
    intro l k hl h
    match l, hl, h with
    | [], _, h => simp only [hexes, Option.some.injEq] at h; subst h; rfl
    | [_], _, h => simp [hexes] at h
    | a :: b :: r, hl, h =>
      rw [hexes] at h
      cases ha : hexV a with
      | none => rw [ha] at h; simp at h
      | some x =>
        cases hb : hexV b with
        | none => rw [ha, hb] at h; simp at h
        | some y =>
          cases hr : hexes r with
          | none => rw [ha, hb, hr] at h; simp at h
          | some k' =>
            rw [ha, hb, hr] at h
            simp only [Option.some.injEq] at h
            subst h
            obtain ⟨a1, a2⟩ := hexD_hexV a x ha
            obtain ⟨b1, b2⟩ := hexD_hexV b y hb
            have hi := ih r k' (by simp at hl; omega) hr
            have e : (UInt8.ofNat (x * 16 + y)).toNat = x * 16 + y := by
              rw [UInt8.toNat_ofNat']
              omega
            simp only [List.flatMap_cons, List.cons_append, List.nil_append]
            rw [e, show (x * 16 + y) / 16 = x by omega, show (x * 16 + y) % 16 = y by omega, a1, b1, hi]
theorem readKey_keyT (k : List UInt8) : readKey (keyT k) = some k := hexes_key k
theorem readKey_inv {l k : List UInt8} (h : readKey l = some k) : keyT k = l := by
  unfold readKey at h
  split at h
  · rename_i r
    show 120 :: _ = _
    rw [key_hexes r.length r k (Nat.le_refl _) h]
  · simp at h
end Go.Proofs.YtnoeiaicligmiaaDoor
