/- What Parse needs beside its walk: bounds of the parser, the script in memory, the plain law's cases. -/
import Derived.Test.YtnoeiaicligmiaaDoorSLine
namespace Go.Proofs.YtnoeiaicligmiaaDoor
set_option linter.unusedVariables false
set_option linter.unusedSimpArgs false
open Go Go.RowKit
def Small (n : Nat) (st : PS) : Prop := (st.scr.threads.length ≤ n ∧ ∀ t ∈ st.scr.threads, t.length ≤ n) ∧ st.scr.picks.length ≤ 1048577
theorem addOp_len (ts : List (List OpD)) (o : OpD) : (addOp ts o).length = ts.length := by
  induction ts with
  | nil => rfl
  | cons t r ih =>
    cases r with
    | nil => rfl
    | cons a b => simp only [addOp, List.length_cons] at ih ⊢; omega
theorem addOp_small {n : Nat} (ts : List (List OpD)) (o : OpD) (h : ∀ t ∈ ts, t.length ≤ n) : ∀ t ∈ addOp ts o, t.length ≤ n + 1 := by
  induction ts with
  | nil => intro t ht; simp [addOp] at ht
  | cons a r ih =>
    cases r with
    | nil =>
      intro t ht
      simp only [addOp, List.mem_singleton] at ht
      subst ht
      have := h a (by simp)
      simp; omega
    | cons c d =>
      intro t ht
      simp only [addOp, List.mem_cons] at ht
      rcases ht with rfl | ht
      · have := h t (by simp); omega
      · exact ih (fun x hx => h x (by simp only [List.mem_cons] at hx ⊢; exact Or.inr hx)) t ht
theorem Small.step {n : Nat} {st st' : PS} {ws : List (List UInt8)} (h' : Small n st) (hw : ws.length ≤ 1048577) (ht : takeL st ws = some st') : Small (n + 1) st' := by
  obtain ⟨h, hp⟩ := h'
  have up : Small (n + 1) st := ⟨⟨by have := h.1; omega, fun t ht => by have := h.2 t ht; omega⟩, hp⟩
  unfold takeL at ht
  split at ht
  · simp at ht
  · split at ht
    · split at ht
      · split at ht
        · split at ht
          · simp only [Option.some.injEq] at ht; subst ht; exact up
          · simp at ht
        · simp at ht
      · simp at ht
    · split at ht
      · split at ht
        · simp only [Option.some.injEq] at ht
          subst ht
          refine ⟨⟨by simp; exact h.1, fun t ht => ?_⟩, hp⟩
          simp only [List.mem_append, List.mem_singleton] at ht
          rcases ht with ht | rfl
          · exact up.1.2 t ht
          · simp
        · simp at ht
      · split at ht
        · split at ht
          · next l hl =>
            simp only [Option.some.injEq] at ht
            subst ht
            refine ⟨up.1, ?_⟩
            have := readInts_len hl
            simp at this
            simp only
            omega
          · simp at ht
        · split at ht
          · split at ht
            · simp at ht
            · simp only [Option.some.injEq] at ht
              subst ht
              exact ⟨⟨by simp only [addOp_len]; exact up.1.1, addOp_small _ _ h.2⟩, hp⟩
          · simp at ht
def st0 : PS := ⟨ScrD.nil, false, false⟩
theorem parse_long {l : List UInt8} (h : 1048576 < l.length) : parseS l = (ScrD.nil, 0, 3) := by unfold parseS; rw [if_pos (by unfold maxText; exact h)]
theorem parse_bad {l : List UInt8} {n : Nat} (hl : l.length ≤ 1048576) (h : takeAll st0 (linesOf l).1 0 = .inr n) : parseS l = (ScrD.nil, (n : Int), 4) := by
  unfold parseS
  rw [if_neg (by unfold maxText; omega)]
  unfold st0 at h
  rw [h]
theorem parse_open {l : List UInt8} {st : PS} {n : Nat} (hl : l.length ≤ 1048576) (h : takeAll st0 (linesOf l).1 0 = .inl st) (h2 : (linesOf l).2 ≠ [] ∨ st.done = false) (hn : (linesOf l).1.length = n) : parseS l = (ScrD.nil, (n : Int) + 1, 4) := by
  unfold parseS
  rw [if_neg (by unfold maxText; omega)]
  unfold st0 at h
  rw [h]
  simp only [h2, if_true, hn]
theorem parse_lim {l : List UInt8} {st : PS} (hl : l.length ≤ 1048576) (h : takeAll st0 (linesOf l).1 0 = .inl st) (h2 : (linesOf l).2 = []) (hd : st.done = true) (hc : checkS st.scr ≠ 0) : parseS l = (ScrD.nil, 0, 3) := by
  unfold parseS
  rw [if_neg (by unfold maxText; omega)]
  unfold st0 at h
  rw [h]
  simp only
  rw [if_neg (by simp [h2, hd]), if_pos hc]
theorem parse_ok {l : List UInt8} {st : PS} (hl : l.length ≤ 1048576) (h : takeAll st0 (linesOf l).1 0 = .inl st) (h2 : (linesOf l).2 = []) (hd : st.done = true) (hc : checkS st.scr = 0) : parseS l = (st.scr, 0, 0) := by
  unfold parseS
  rw [if_neg (by unfold maxText; omega)]
  unfold st0 at h
  rw [h]
  simp only
  rw [if_neg (by simp [h2, hd]), if_neg (by simp [hc])]
theorem checkS_03 (s : ScrD) : checkS s = 0 ∨ checkS s = 3 := by
  unfold checkS
  split
  · exact Or.inr rfl
  · split
    · exact Or.inr rfl
    · exact Or.inl rfl
/-- where the parser stands behind n lines: what is still to read decides the answer -/
def At (l r : List UInt8) (n : Nat) (st : PS) : Prop :=
  r.length + n ≤ 1048576 ∧ takeAll st0 (linesOf l).1 0 = takeAll st (linesOf r).1 n ∧ (linesOf l).2 = (linesOf r).2 ∧ (linesOf l).1.length = n + (linesOf r).1.length ∧ Small n st
theorem At.start (l : List UInt8) (h : l.length ≤ 1048576) : At l l 0 st0 := ⟨by omega, rfl, rfl, by omega, ⟨by simp [st0, ScrD.nil], by simp [st0, ScrD.nil]⟩, by simp [st0, ScrD.nil]⟩
theorem At.line {l a r : List UInt8} {n : Nat} {st st' : PS} (h : At l (a ++ 10 :: r) n st) (ha : ∀ b ∈ a, b ≠ 10) (ht : takeL st (words a) = some st') : At l r (n + 1) st' := by
  obtain ⟨h1, h2, h3, h4, h5⟩ := h
  rw [linesOf_line a r ha] at h2 h3 h4
  refine ⟨by simp at h1; omega, ?_, h3, by simp at h4; omega, h5.step (by have := (words_len a).1; simp at h1; omega) ht⟩
  rw [h2]
  simp only [takeAll, ht]
theorem At.stop {l a r : List UInt8} {n : Nat} {st : PS} (hl : l.length ≤ 1048576) (h : At l (a ++ 10 :: r) n st) (ha : ∀ b ∈ a, b ≠ 10) (ht : takeL st (words a) = none) : parseS l = (ScrD.nil, (n : Int) + 1, 4) := by
  obtain ⟨h1, h2, h3, h4, h5⟩ := h
  rw [linesOf_line a r ha] at h2
  have := parse_bad hl (n := n + 1) (by rw [h2]; simp only [takeAll, ht])
  rw [this]
  simp
theorem At.open {l r : List UInt8} {n : Nat} {st : PS} (hl : l.length ≤ 1048576) (h : At l r n st) (ha : ∀ b ∈ r, b ≠ 10) (h0 : r ≠ [] ∨ st.done = false) : parseS l = (ScrD.nil, (n : Int) + 1, 4) := by
  obtain ⟨h1, h2, h3, h4, h5⟩ := h
  rw [linesOf_none r ha] at h2 h3 h4
  exact parse_open hl h2 (h0.imp (fun h => by rw [h3]; exact h) id) (by simpa using h4)
theorem At.end {l : List UInt8} {n : Nat} {st : PS} (h : At l [] n st) : takeAll st0 (linesOf l).1 0 = .inl st ∧ (linesOf l).2 = [] := by
  obtain ⟨h1, h2, h3, h4, h5⟩ := h
  exact ⟨h2, h3⟩
/-! ### the script in memory -/
theorem ops_flat (t : List OpD) (k j : Nat) (o : OpD) (hk : t[k]? = some o) (hj : j < 5) : (t.flatMap opC)[k * 5 + j]? = (opC o)[j]? := by
  induction t generalizing k with
  | nil => simp at hk
  | cons a r ih =>
    rw [List.flatMap_cons]
    have hl : (opC a).length = 5 := rfl
    cases k with
    | zero =>
      simp only [List.getElem?_cons_zero, Option.some.injEq] at hk
      subst hk
      rw [Nat.zero_mul, Nat.zero_add, List.getElem?_append_left (by omega)]
    | succ k =>
      rw [List.getElem?_append_right (by omega), hl]
      have := ih k (by simpa using hk)
      rw [← this]
      congr 1
      omega
theorem row_ops {w : World} {B : Nat} {u : Value} {t : List OpD} (h : w.ownsRow B 39 5 u t.length (t.flatMap opC)) : ∃ a c, u = .slice a t.length c ∧ OpsAt w a t := by
  by_cases h0 : 0 < t.length
  · obtain ⟨g, cap, rfl⟩ := row_some h h0
    refine ⟨_, cap, rfl, fun _ => ⟨g, 0, rfl, row_lt h rfl, fun k o hk => ?_⟩⟩
    have c : ∀ j, j < 5 → w.cell? ⟨g, k * 5 + j, none⟩ = (opC o)[j]? := fun j hj => by
      have e := ops_flat t k j o hk hj
      have hs : (opC o)[j]? = some ((opC o)[j]'(by simpa [opC] using hj)) := List.getElem?_eq_getElem _
      rw [hs] at e ⊢
      have := h.cells (g := g) rfl _ _ e
      rwa [addr_at] at this
    simp only [Nat.zero_add]
    exact ⟨c 0 (by omega), c 1 (by omega), c 2 (by omega), c 3 (by omega), c 4 (by omega)⟩
  · obtain ⟨a, c, rfl⟩ := row_form h
    exact ⟨a, c, rfl, fun h1 => absurd h1 h0⟩
theorem row_len {w : World} {B size n : Nat} {e : TypeId} {v : Value} {xs : List Value} (h : w.ownsRow B e size v n xs) : n ≤ maxLen := by
  rcases h.2 with ⟨_, h0⟩ | ⟨g, cap, cur, hv, hb, hg, h1, h2, _⟩
  · omega
  · omega
theorem ParAt.scr {B : Nat} {w0 w : World} {P : Nat} {st : PS} {vt vp : Value} {us : List Value} (h : ParAt B w0 w P st vt vp us) (hs : Small 1048576 st) : ∃ A c D d, vt = .slice A st.scr.threads.length c ∧ vp = .slice D st.scr.picks.length d ∧ ScrAt w A D st.scr := by
  have hus := h.hus
  obtain ⟨D, d, hD⟩ := row_form h.pks
  have pk : PicksAt w D st.scr.picks := fun h0 => by
    obtain ⟨g, cap, hg⟩ := row_some h.pks h0
    rw [hg] at hD
    simp only [Value.slice.injEq, true_and] at hD
    obtain ⟨rfl, rfl⟩ := hD
    refine ⟨g, 0, rfl, row_lt h.pks (by rw [hg]; rfl), fun i p hi => ?_⟩
    have := h.pks.cells (g := g) (by rw [hg]; rfl) i (.int .i64 p) (by simp [hi])
    rwa [addr_at, ← Nat.zero_add i] at this
  obtain ⟨A, c, hA⟩ := row_form h.thr
  have th : ThrAt w A st.scr.threads := fun h0 => by
    obtain ⟨g, cap, hg⟩ := row_some h.thr (by omega)
    rw [hg] at hA
    simp only [Value.slice.injEq, true_and] at hA
    obtain ⟨rfl, rfl⟩ := hA
    refine ⟨g, 0, rfl, row_lt h.thr (by rw [hg]; rfl), fun i t hi => ?_⟩
    have hlt : i < us.length := by rw [hus]; exact (List.getElem?_eq_some_iff.1 hi).1
    have hu : us[i]? = some us[i] := List.getElem?_eq_getElem hlt
    obtain ⟨a, cc, hac, ho⟩ := row_ops (h.ops i _ t hu hi)
    have := h.thr.cells (g := g) (by rw [hg]; rfl) i _ hu
    rw [addr_at, hac, ← Nat.zero_add i] at this
    exact ⟨a, cc, this, ho⟩
  exact ⟨A, c, D, d, by rw [hA, hus], hD, th, pk, by have := hs.1.1; omega, by have := hs.2; omega, fun t ht => by have := hs.1.2 t ht; omega⟩
end Go.Proofs.YtnoeiaicligmiaaDoor
