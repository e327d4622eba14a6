/- The walks of package model, sixth part: Contents; the pairs of a map in their order. -/
import Derived.Test.YtagfghihnkkfiaaModF
import Derived.Test.YtagfghihnkkfiaaAbs
import Derived.Test.YtagfghihnkkfiaaModA
import Derived.Deep.RegionWith
namespace Go.Proofs.Ytagfghihnkkfiaa
set_option linter.unusedVariables false
set_option linter.unusedSimpArgs false
open Go.RowKit Go.MapKept

theorem ltP_irrefl (m : Int) (x : ByteArray × Int) : ltP m x x = false := less_irrefl _ _
theorem ltP_trans {m : Int} {x y z : ByteArray × Int} (h1 : ltP m x y = true) (h2 : ltP m y z = true) : ltP m x z = true := less_trans _ _ _ _ _ _ h1 h2
theorem ltP_asymm {m : Int} {x y : ByteArray × Int} (h1 : ltP m x y = true) : ltP m y x = false := less_asymm _ _ _ _ h1
theorem ltP_ntrans {m : Int} {x y z : ByteArray × Int} (h1 : ltP m x y = false) (h2 : ltP m y z = false) : ltP m x z = false := by
  have := (swoP m).ntrans x y z
  rw [lt_cmp, lt_cmp, lt_cmp] at this
  exact this h1 h2
theorem sortedOf_sorted (m : Int) (L : List (ByteArray × Int)) : (sortedOf m L).Pairwise (fun a b => ltP m b a = false) := by
  have h := List.pairwise_mergeSort (le := fun a b : ByteArray × Int => !ltP m b a) (fun a b c h1 h2 => by
    simp only [Bool.not_eq_true'] at h1 h2 ⊢
    exact ltP_ntrans h2 h1) (fun a b => by
    cases hx : ltP m b a with
    | false => simp
    | true => simp [ltP_asymm hx]) L
  exact h.imp (fun hh => by simpa using hh)
theorem key_unique {L : List (ByteArray × Int)} (hn : (L.map (·.1)).Nodup) {a b : ByteArray × Int} (ha : a ∈ L) (hb : b ∈ L) (h : a.1 = b.1) : a = b := by
  induction L with
  | nil => simp at ha
  | cons x t ih =>
    simp only [List.map_cons, List.nodup_cons] at hn
    rcases List.mem_cons.1 ha with rfl | ha'
    · rcases List.mem_cons.1 hb with rfl | hb'
      · rfl
      · exact absurd (h ▸ List.mem_map.2 ⟨b, hb', rfl⟩) hn.1
    · rcases List.mem_cons.1 hb with rfl | hb'
      · exact absurd (h ▸ List.mem_map.2 ⟨a, ha', rfl⟩) hn.1
      · exact ih hn.2 ha' hb'
theorem sorted_unique {m : Int} {L l : List (ByteArray × Int)} (hn : (L.map (·.1)).Nodup) (hp : l.Perm L) (hs : l.Pairwise (fun a b => ltP m b a = false)) : l = sortedOf m L := by
  refine List.Perm.eq_of_pairwise (le := fun a b => ltP m b a = false) (fun a b ha hb h1 h2 => ?_) hs (sortedOf_sorted m L) (hp.trans (sortedOf_perm m L).symm)
  exact key_unique hn (hp.subset ha) ((sortedOf_perm m L).subset hb) (ltP_total h2 h1)

/-- the bounds of a family -/
structure FamOk (N : Nat) (F : FamD) : Prop where
  m0 : 0 ≤ F.mask
  m1 : F.mask ≤ 18446744073709551615
  keys : ∀ p ∈ F.maps, ∀ q ∈ p.2.vals, q.1.size ≤ 64
  lens : ∀ p ∈ F.maps, p.2.vals.length ≤ N
  poss : ∀ p ∈ F.iters, 0 ≤ p.2.pos ∧ p.2.pos ≤ N
  nums : ∀ p ∈ F.iters, (alook F.maps p.2.number).isSome = true
  count : F.maps.length ≤ N
theorem OkA.fam {N : Nat} {F : FamD} (h : OkA N F.abs) : FamOk N F := by
  have mem : ∀ p ∈ F.maps, (p.1, p.2.abs) ∈ F.abs.maps := fun p hp => List.mem_map.2 ⟨p, hp, rfl⟩
  refine ⟨h.m0, h.m1, fun p hp => h.keys _ (mem p hp), fun p hp => h.lens _ (mem p hp), h.poss, fun p hp => ?_, ?_⟩
  · have := h.nums p hp
    simpa [FamD.abs, alook_amap] using this
  · have := h.count
    simpa [FamD.abs, amap] using this
/-- what ordered leaves, at a map of a family -/
def ListPost (w : World) (L : List (ByteArray × Int)) (m : Int) (v : Value) (w' : World) : Prop :=
  ∃ g : Nat, v = .slice (some ⟨g, 0, none⟩) L.length L.length ∧ w'.ownsRow w.heap.size 45 2 (.slice (some ⟨g, 0, none⟩) L.length L.length) L.length ((sortedOf m L).flatMap pairV) ∧ Below w.heap.size w w'
theorem ordered_fam (w : World) (bf bm bi : Nat) (F : FamD) (N : Nat) (hN : N ≤ 1099511627776) (hok : FamOk N F) (h : FamIs w bf bm bi F) (n : Int) (d : MapD) (hn : alook F.maps n = some d) :
    Calls Try.prog 35 #[.pointer (some ⟨bf, 0, none⟩), mapV d] w fun e w' => ∃ v, e = .returned v ∧ ListPost w d.vals F.mask v w' := by
  have hm := alook_mem hn
  have hv := h.vals _ hm
  refine (ordered_any w bf F.mask d (h.lt (Or.inl rfl)) h.cell.1 hok.m0 hok.m1 hv (hok.keys _ hm) (Nat.le_trans (hok.lens _ hm) hN)).mono fun e w' ⟨g, l, he, h1, h2, h3, h4⟩ => ⟨_, he, g, rfl, ?_, h4⟩
  rw [← sorted_unique (hv.nodup inj_str) h1 h2]
  exact h3
end Go.Proofs.Ytagfghihnkkfiaa
