/- The walks of package model, seventh part: Contents. -/
import Derived.Test.YtagfghihnkkfiaaModG
namespace Go.Proofs.Ytagfghihnkkfiaa
set_option linter.unusedVariables false
set_option linter.unusedSimpArgs false
open Go.RowKit Go.MapKept
theorem owns_base {w : World} {base base' : Nat} {e : TypeId} {size : Nat} {v : Value} {n : Nat} {xs : List Value} (h : w.ownsRow base e size v n xs) (hb : base' ≤ base) : w.ownsRow base' e size v n xs := by
  obtain ⟨o1, o2⟩ := h
  refine ⟨o1, ?_⟩
  rcases o2 with h1 | ⟨g, cap, cur, h1, h2, h3⟩
  · exact Or.inl h1
  · exact Or.inr ⟨g, cap, cur, h1, by omega, h3⟩
theorem contents_none (w : World) (bf bm bi : Nat) (F : FamD) (h : FamIs w bf bm bi F) (n : Int) (hn : alook F.maps n = none) :
    Calls Try.prog 13 #[.pointer (some ⟨bf, 0, none⟩), .int .i64 n] w fun e w' => e = .returned (.tuple #[.slice none 0 0, .bool false, .bool false]) ∧ Below w.heap.size w w' := by
  have hlf := h.lt (k := bf) (Or.inl rfl)
  have hlm := h.lt (k := bm) (Or.inr (Or.inl rfl))
  obtain ⟨c0, c1, c2⟩ := h.cell
  have hl := h.look_maps n true
  rw [hn] at hl
  simp only [if_true, outOf, Option.isSome_none] at hl
  clear h hn
  go_enter Try.func13, Try.ntmps13
  go_wp2_with fail
  go_ret3
  exact ⟨rfl, (Below.refl _ _).alloc (Nat.le_refl _) _⟩
theorem contents_some (w : World) (bf bm bi : Nat) (F : FamD) (N : Nat) (hN : N ≤ 1099511627776) (hok : FamOk N F) (h : FamIs w bf bm bi F) (n : Int) (d : MapD) (hn : alook F.maps n = some d) :
    Calls Try.prog 13 #[.pointer (some ⟨bf, 0, none⟩), .int .i64 n] w fun e w' => ∃ v, e = .returned (.tuple #[v, .bool d.ro, .bool true]) ∧ ListPost w d.vals F.mask v w' := by
  have hlf := h.lt (k := bf) (Or.inl rfl)
  have hlm := h.lt (k := bm) (Or.inr (Or.inl rfl))
  obtain ⟨c0, c1, c2⟩ := h.cell
  have hl := h.look_maps n true
  have hA : FamIs (w.alloc (.cells #[.map (some d.ref), .bool d.ro] 74)).drew bf bm bi F := h.below (((Below.refl _ _).alloc (Nat.le_refl _) _).drew)
  have hcon := ordered_fam _ bf bm bi F N hN hok hA n d hn
  rw [hn] at hl
  simp only [if_true, outOf, Option.isSome_some, mapV] at hl hcon
  have HC := Lib.hid hcon
  clear h hn hA hcon
  obtain ⟨r, L, ro⟩ := d
  simp only at hl HC ⊢
  go_enter Try.func13, Try.ntmps13
  go_wp2_with fail
  go_region_with (go_at_call 35; refine HC.out.mono ?_; rintro e w1 ⟨v, rfl, g, rfl, hg1, hg2⟩; have q1 := hg2.cell (p := ⟨w.heap.size, 1, none⟩) (by simp); have G1 := Lib.hid (And.intro hg1 hg2); clear hg1 hg2)
  all_goals
    go_wp2_with fail
    go_ret3
    have hp := G1.out
    exact ⟨_, rfl, g, rfl, owns_base hp.1 (by simp), Below.trans (((Below.refl _ _).alloc (Nat.le_refl _) _).drew) (hp.2.mono (by simp))⟩
end Go.Proofs.Ytagfghihnkkfiaa
