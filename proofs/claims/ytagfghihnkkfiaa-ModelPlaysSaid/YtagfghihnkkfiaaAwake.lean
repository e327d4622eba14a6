/- The walk of ctrielaw27.awake. -/
import Derived.Test.YtagfghihnkkfiaaModQ
namespace Go.Proofs.Ytagfghihnkkfiaa
set_option linter.unusedVariables false
set_option linter.unusedSimpArgs false
open Go.RowKit Go.MapKept
def awA : ByteArray := ⟨#[97]⟩
def awB : ByteArray := ⟨#[98]⟩
def aw1 : AFam := ⟨63, [(0, ⟨[(⟨#[97]⟩, 1)], false⟩)], []⟩
def aw2 : AFam := ⟨63, [(0, ⟨[(⟨#[97]⟩, 1)], false⟩), (2, ⟨[(⟨#[97]⟩, 1)], true⟩)], []⟩
def aw3 : AFam := ⟨63, [(0, ⟨[(⟨#[97]⟩, 1), (⟨#[98]⟩, 2)], false⟩), (2, ⟨[(⟨#[97]⟩, 1)], true⟩)], []⟩
theorem aw_e1 : applyA (famO 63) 0 0 ⟨1, 0, ⟨#[97]⟩, 1, 0⟩ = (aw1, { count := 1 }) := by kernel_rfl
theorem aw_e2 : applyA aw1 0 1 ⟨9, 0, ⟨#[]⟩, 0, 0⟩ = (aw2, { found := true }) := by kernel_rfl
theorem aw_e3 : applyA aw2 0 2 ⟨1, 0, ⟨#[98]⟩, 2, 0⟩ = (aw3, { count := 1 }) := by kernel_rfl
theorem aw_o0 : OkA 1 (famO 63) := famO_ok 63 (by omega) (by omega)
theorem aw_o1 : OkA 2 aw1 := by have := aw_o0.apply 0 0 ⟨1, 0, ⟨#[97]⟩, 1, 0⟩; rw [aw_e1] at this; exact this
theorem aw_o2 : OkA 3 aw2 := by have := aw_o1.apply 0 1 ⟨9, 0, ⟨#[]⟩, 0, 0⟩; rw [aw_e2] at this; exact this
theorem aw_o3 : OkA 4 aw3 := by have := aw_o2.apply 0 2 ⟨1, 0, ⟨#[98]⟩, 2, 0⟩; rw [aw_e3] at this; exact this
theorem size_small (n : Nat) (h : n ≤ 64) : n ≤ maxLen := by unfold maxLen; omega
set_option maxRecDepth 100000 in
set_option maxHeartbeats 1000000 in
theorem awake_any (w : World) : Calls Try.prog 16 #[] w fun e w' => e = .returned (.bool true) ∧ Below w.heap.size w w' := by
  go_enter Try.func16, Try.ntmps16
  go_wp2_with fail
  refine (new_A _ _).mono ?_
  rintro e w1 ⟨rfl, hb1, hz1, hf1⟩
  have HF := Lib.hid hf1
  have HB := Lib.hid hb1
  clear hf1 hb1
  go_wp2_with fail
  refine (apply_to _ _ _ _ (famO 63) _ 1 (by omega) 0 0 ⟨1, 0, ⟨#[97]⟩, 1, 0⟩ aw1 { count := 1 } HF.out aw_o0 (size_small _ (by decide)) aw_e1 (by decide) (by decide)).mono ?_
  rintro e w2 ⟨rfl, hf2, ho2⟩
  have hz2 : w.heap.size + 3 < w2.heap.size := Nat.lt_of_lt_of_le hz1 ho2.size
  have HF2 := Lib.hid (hf2.alloc (.cells (ResD.cells { count := 1 }) 35))
  have R1 := Lib.hid (ResAt.made w2 { count := 1 })
  have HB2 := Lib.hid (HB.out.trans (ho2.below (by omega) (fun k hk => hk.1)))
  clear hf2 ho2 HF HB
  simp only [ResD.cells]
  go_wp2_with fail
  refine (copy_to _ _ _ _ aw1 _ 2 (by omega) 0 1 ⟨9, 0, ⟨#[]⟩, 0, 0⟩ aw2 { found := true } HF2.out aw_o1 (size_small _ (by decide)) aw_e2).mono ?_
  rintro e w3 ⟨rfl, hf3, ho3⟩
  have hz3 : w2.heap.size < w3.heap.size := by have := ho3.size; simp at this; omega
  obtain ⟨S3, hs3, hsa, hsb, hf3'⟩ : ∃ S3 : Nat → Prop, (∀ k, S3 k → w.heap.size ≤ k) ∧ ¬ S3 w2.heap.size ∧ (∀ k, w3.heap.size ≤ k → ¬ S3 k) ∧ FamA w3 (w.heap.size + 3) w.heap.size (w.heap.size + 2) aw2 S3 := by
    refine ⟨_, ?_, ?_, ?_, hf3⟩
    · rintro k (hk | hk)
      · exact hk.1
      · simp at hk; omega
    · rintro (hk | hk)
      · unfold blk4 at hk; omega
      · simp at hk; omega
    · rintro k h3 (hk | hk)
      · unfold blk4 at hk; omega
      · omega
  have HF3 := Lib.hid (hf3'.alloc (.cells (ResD.cells { found := true }) 35))
  have R1b := Lib.hid ((R1.out.only ho3 (by unfold blk4; omega)).alloc (.cells (ResD.cells { found := true }) 35))
  have R2 := Lib.hid (ResAt.made w3 { found := true })
  have HB3 := Lib.hid ((HB2.out.alloc (by omega) (.cells (ResD.cells { count := 1 }) 35)).trans (ho3.below (by simp; omega) (fun k hk => hk.1)))
  have SA := Lib.hid hsa
  have SB := Lib.hid hsb
  have SC := Lib.hid hs3
  clear hf3 ho3 hf3' HF2 HB2 R1 hsa hsb hs3
  simp only [ResD.cells]
  go_wp2_with fail
  refine (apply_to _ _ _ _ aw2 _ 3 (by omega) 0 2 ⟨1, 0, ⟨#[98]⟩, 2, 0⟩ aw3 { count := 1 } HF3.out aw_o2 (size_small _ (by decide)) aw_e3 (by decide) (by decide)).mono ?_
  rintro e w4 ⟨rfl, hf4, ho4⟩
  have hz4 : w3.heap.size < w4.heap.size := by have := ho4.size; simp at this; omega
  have HF4 := Lib.hid (hf4.alloc (.cells (ResD.cells { count := 1 }) 35))
  have R1c := Lib.hid ((R1b.out.only ho4 SA.out).alloc (.cells (ResD.cells { count := 1 }) 35))
  have R2c := Lib.hid ((R2.out.only ho4 (SB.out _ (Nat.le_refl _))).alloc (.cells (ResD.cells { count := 1 }) 35))
  have R3 := Lib.hid (ResAt.made w4 { count := 1 })
  have HB4 := Lib.hid ((HB3.out.alloc (by omega) (.cells (ResD.cells { found := true }) 35)).trans (ho4.below (by simp; omega) SC.out))
  clear hf4 ho4 HF3 HB3 R1b R2 SA SB SC
  simp only [ResD.cells]
  go_wp2_with fail
  refine (contents_A _ _ _ _ aw3 _ 4 (by omega) 2 ⟨[(⟨#[97]⟩, 1)], true⟩ HF4.out aw_o3 (by kernel_rfl)).mono ?_
  rintro e w5 ⟨v, rfl, g5, rfl, hg5, hb5⟩
  have HF5 := Lib.hid (HF4.out.below hb5)
  have R1d := Lib.hid (R1c.out.below hb5)
  have R2d := Lib.hid (R2c.out.below hb5)
  have R3d := Lib.hid (R3.out.below hb5)
  have HB5 := Lib.hid ((HB4.out.alloc (by omega) (.cells (ResD.cells { count := 1 }) 35)).trans (hb5.mono (by simp; omega)))
  clear hg5 hb5 HF4 HB4 R1c R2c R3
  go_wp2_with fail
  refine (contents_A _ _ _ _ aw3 _ 4 (by omega) 0 ⟨[(⟨#[97]⟩, 1), (⟨#[98]⟩, 2)], false⟩ HF5.out aw_o3 (by kernel_rfl)).mono ?_
  rintro e w6 ⟨v, rfl, g6, rfl, hg6, hb6⟩
  have q1 := (R1d.out.below hb6).cell
  have q2 := (R2d.out.below hb6).cell
  have q3 := (R3d.out.below hb6).cell
  have HB6 := Lib.hid (HB5.out.trans (hb6.mono (HB5.out.size)))
  simp only [ResD.cells] at q1 q2 q3
  clear hg6 hb6 HF5 HB5 R1d R2d R3d
  go_wp2_with fail
  go_ret
  exact ⟨rfl, HB6.out⟩
end Go.Proofs.Ytagfghihnkkfiaa
