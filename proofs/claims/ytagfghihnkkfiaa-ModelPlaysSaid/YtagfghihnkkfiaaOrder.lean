/- Plain mathematics of the order of keys: no program in sight. -/
import Derived.Test.YtagfghihnkkfiaaBits
import Derived.Lib.Strings
namespace Go.Proofs.Ytagfghihnkkfiaa
set_option linter.unusedVariables false
set_option linter.unusedSimpArgs false
open Go.RowKit

theorem bl_irrefl : ∀ a : List UInt8, Op.bytesLess a a = false := by
  intro a
  induction a with
  | nil => rfl
  | cons c r ih => simp [Op.bytesLess, ih]
theorem bl_asymm : ∀ a b : List UInt8, Op.bytesLess a b = true → Op.bytesLess b a = false := by
  intro a
  induction a with
  | nil => intro b h; cases b <;> simp_all [Op.bytesLess]
  | cons c r ih =>
    intro b h
    cases b with
    | nil => simp [Op.bytesLess] at h
    | cons d s =>
      simp only [Op.bytesLess, Bool.or_eq_true, decide_eq_true_eq, Bool.and_eq_true, beq_iff_eq, Bool.or_eq_false_iff, decide_eq_false_iff_not, Bool.and_eq_false_iff, beq_eq_false_iff_ne] at h ⊢
      rcases h with h | ⟨h1, h2⟩
      · exact ⟨fun hh => UInt8.lt_irrefl _ (UInt8.lt_trans h hh), Or.inl fun he => by subst he; exact UInt8.lt_irrefl _ h⟩
      · subst h1; exact ⟨UInt8.lt_irrefl _, Or.inr (ih s h2)⟩
theorem bl_total : ∀ a b : List UInt8, Op.bytesLess a b = false → Op.bytesLess b a = false → a = b := by
  intro a
  induction a with
  | nil => intro b h1 h2; cases b <;> simp_all [Op.bytesLess]
  | cons c r ih =>
    intro b h1 h2
    cases b with
    | nil => simp [Op.bytesLess] at h2
    | cons d s =>
      simp only [Op.bytesLess, Bool.or_eq_false_iff, decide_eq_false_iff_not, Bool.and_eq_false_iff, beq_eq_false_iff_ne] at h1 h2
      have e : c = d := by
        have a1 := h1.1; have a2 := h2.1
        rw [UInt8.lt_iff_toNat_lt] at a1 a2
        exact UInt8.toNat_inj.mp (by omega)
      subst e
      rw [ih s (h1.2.resolve_left (by simp)) (h2.2.resolve_left (by simp))]
theorem bl_trans : ∀ a b c : List UInt8, Op.bytesLess a b = true → Op.bytesLess b c = true → Op.bytesLess a c = true := by
  intro a
  induction a with
  | nil => intro b c h1 h2; cases b <;> cases c <;> simp_all [Op.bytesLess]
  | cons x r ih =>
    intro b c h1 h2
    cases b with
    | nil => simp [Op.bytesLess] at h1
    | cons y s =>
      cases c with
      | nil => simp [Op.bytesLess] at h2
      | cons z t =>
        simp only [Op.bytesLess, Bool.or_eq_true, decide_eq_true_eq, Bool.and_eq_true, beq_iff_eq] at h1 h2 ⊢
        rcases h1 with h1 | ⟨rfl, h1⟩
        · rcases h2 with h2 | ⟨rfl, h2⟩
          · exact Or.inl (UInt8.lt_trans h1 h2)
          · exact Or.inl h1
        · rcases h2 with h2 | ⟨rfl, h2⟩
          · exact Or.inl h2
          · exact Or.inr ⟨rfl, ih s t h1 h2⟩

theorem cm_nat (h k : Int) : ∃ c : Nat, cm h k = c ∧ c ≤ 11 ∧ (∀ j : Nat, j < c → sl h j = sl k j) ∧ (c < 11 → ¬ sl h c = sl k c) := by
  have hb := cmFrom_bd h k 11 0
  have hs := cmFrom_spec h k 11 0
  exact ⟨cmFrom h k 11 0, rfl, by omega, fun j hj => hs.1 j (by omega) hj, fun hj => hs.2 (by omega)⟩
theorem cm_uniq (h k : Int) (c : Nat) (hc : c ≤ 11) (h1 : ∀ j : Nat, j < c → sl h j = sl k j) (h2 : c < 11 → ¬ sl h c = sl k c) : cm h k = c := by
  unfold cm
  rw [cmFrom_uniq h k 11 0 c (by omega) (by omega) (fun j _ hj => h1 j hj) (fun hj => h2 (by omega))]
theorem lessB_c (h : Int) (a : List UInt8) (k : Int) (b : List UInt8) (c : Nat) (he : cm h k = c) :
    lessB h a k b = if c < 11 then decide (sl h c < sl k c) else Op.bytesLess a b := by
  unfold lessB; rw [he]
  by_cases hc : c < 11
  · rw [if_pos (by omega), if_pos hc]
  · rw [if_neg (by omega), if_neg hc]
theorem less_irrefl (h : Int) (a : List UInt8) : lessB h a h a = false := by
  rw [lessB_out _ _ _ _ (by rw [cm_self]; omega), bl_irrefl]
theorem less_asymm (h : Int) (a : List UInt8) (k : Int) (b : List UInt8) (hx : lessB h a k b = true) : lessB k b h a = false := by
  obtain ⟨c, e, c1, c2, c3⟩ := cm_nat h k
  have e' := cm_uniq k h c c1 (fun j hj => (c2 j hj).symm) (fun hj he => c3 hj he.symm)
  rw [lessB_c _ _ _ _ c e] at hx
  rw [lessB_c _ _ _ _ c e']
  by_cases hc : c < 11
  · rw [if_pos hc] at hx ⊢
    simp only [decide_eq_true_eq, decide_eq_false_iff_not] at hx ⊢
    omega
  · rw [if_neg hc] at hx ⊢
    exact bl_asymm _ _ hx
theorem less_trans (h : Int) (a : List UInt8) (k : Int) (b : List UInt8) (m : Int) (d : List UInt8) (hx : lessB h a k b = true) (hy : lessB k b m d = true) : lessB h a m d = true := by
  obtain ⟨c, e, c1, c2, c3⟩ := cm_nat h k
  obtain ⟨f, e', f1, f2, f3⟩ := cm_nat k m
  rw [lessB_c _ _ _ _ c e] at hx
  rw [lessB_c _ _ _ _ f e'] at hy
  have hlt : c < f → lessB h a m d = true := by
    intro hcf
    have g := cm_uniq h m c c1 (fun j hj => (c2 j hj).trans (f2 j (by omega))) (fun hj he => c3 hj (he.trans (f2 c hcf).symm))
    rw [lessB_c _ _ _ _ c g, if_pos (by omega)]
    rw [if_pos (by omega)] at hx
    rw [← f2 c hcf]; exact hx
  have hgt : f < c → lessB h a m d = true := by
    intro hcf
    have g := cm_uniq h m f f1 (fun j hj => (c2 j (by omega)).trans (f2 j hj)) (fun hj he => f3 hj ((c2 f hcf).symm.trans he))
    rw [lessB_c _ _ _ _ f g, if_pos (by omega)]
    rw [if_pos (by omega)] at hy
    rw [c2 f hcf]; exact hy
  have heq : c = f → lessB h a m d = true := by
    intro hcf
    subst hcf
    by_cases hc : c < 11
    · rw [if_pos hc] at hx hy
      simp only [decide_eq_true_eq] at hx hy
      have g := cm_uniq h m c c1 (fun j hj => (c2 j hj).trans (f2 j hj)) (fun hj he => by omega)
      rw [lessB_c _ _ _ _ c g, if_pos hc]
      simp only [decide_eq_true_eq]; omega
    · rw [if_neg hc] at hx hy
      have g := cm_uniq h m c c1 (fun j hj => (c2 j hj).trans (f2 j hj)) (fun hj => by omega)
      rw [lessB_c _ _ _ _ c g, if_neg hc]
      exact bl_trans _ _ _ hx hy
  rcases Nat.lt_trichotomy c f with h1 | h1 | h1
  · exact hlt h1
  · exact heq h1
  · exact hgt h1
theorem up_all (h k : Int) (h0 : 0 ≤ h) (h1 : h ≤ 18446744073709551615) (k0 : 0 ≤ k) (k1 : k ≤ 18446744073709551615) (hs : ∀ j : Nat, j < 11 → sl h j = sl k j) :
    ∀ n : Nat, n ≤ 11 → up h (10 - n) = up k (10 - n) := by
  intro n
  induction n with
  | zero => intro _; rw [show (10 : Int) - (0 : Nat) = 10 by omega, up_start h h0 h1, up_start k k0 k1]
  | succ n ih =>
    intro hn
    have ih := ih (by omega)
    have e : (10 : Int) - ((n + 1 : Nat) : Int) = (10 - n) - 1 := by omega
    rw [e, ← up_step h (10 - n) h0 h1 (by omega) (by omega), ← up_step k (10 - n) k0 k1 (by omega) (by omega), ih]
    have := hs (10 - n) (by omega)
    rw [show (((10 - n : Nat)) : Int) = 10 - n by omega] at this
    rw [this]
theorem less_total (h : Int) (a : List UInt8) (k : Int) (b : List UInt8) (h0 : 0 ≤ h) (h1 : h ≤ 18446744073709551615) (k0 : 0 ≤ k) (k1 : k ≤ 18446744073709551615)
    (hx : lessB h a k b = false) (hy : lessB k b h a = false) : h = k ∧ a = b := by
  obtain ⟨c, e, c1, c2, c3⟩ := cm_nat h k
  have e' := cm_uniq k h c c1 (fun j hj => (c2 j hj).symm) (fun hj he => c3 hj he.symm)
  rw [lessB_c _ _ _ _ c e] at hx
  rw [lessB_c _ _ _ _ c e'] at hy
  by_cases hc : c < 11
  · rw [if_pos hc] at hx hy
    simp only [decide_eq_false_iff_not] at hx hy
    have := c3 hc
    omega
  · rw [if_neg hc] at hx hy
    refine ⟨?_, bl_total _ _ hx hy⟩
    have := up_all h k h0 h1 k0 k1 (fun j hj => c2 j (by omega)) 11 (by omega)
    rw [up_end h _ h0 (by omega), up_end k _ k0 (by omega)] at this
    exact this
theorem bytes_ext (a b : ByteArray) (h : a.toList = b.toList) : a = b := by
  rw [Lib.toList_data, Lib.toList_data] at h
  cases a; cases b
  simp only [ByteArray.mk.injEq]
  exact Array.toList_inj.mp h
end Go.Proofs.Ytagfghihnkkfiaa
