/- The walks of package model, eighth part: next. -/
import Derived.Test.YtagfghihnkkfiaaModH
import Derived.Deep.DeepCutAuto
namespace Go.Proofs.Ytagfghihnkkfiaa
set_option linter.unusedVariables false
set_option linter.unusedSimpArgs false
open Go.RowKit Go.MapKept
theorem pair_at {w : World} {base g n P : Nat} {l : List (ByteArray × Int)} {x : ByteArray × Int} (h : w.ownsRow base 45 2 (.slice (some ⟨g, 0, none⟩) n n) n (l.flatMap pairV)) (hx : l[P]? = some x) :
    w.cell? ⟨g, P * 2, none⟩ = some (.string x.1) ∧ w.cell? ⟨g, P * 2 + 1, none⟩ = some (.int .u64 x.2) ∧ g < w.heap.size := by
  have hc := h.cells (g := g) rfl
  have f0 := flat_at pairV 2 (fun _ => rfl) l P 0 _ hx (by omega)
  have f1 := flat_at pairV 2 (fun _ => rfl) l P 1 _ hx (by omega)
  have d0 := hc _ _ f0
  have d1 := hc _ _ f1
  rw [addr_at] at d0 d1
  refine ⟨d0, d1, ?_⟩
  rcases h.2 with ⟨h1, _⟩ | ⟨g', cap, cur, h1, _, h2, _⟩
  · simp at h1
  · simp at h1
    have := (Array.getElem?_eq_some_iff.1 h2).1
    omega
def nextR (F : FamD) (it : IterD) (d : MapD) : ResD :=
  if (d.vals.length : Int) ≤ it.pos then {} else { found := true, key := ((sortedOf F.mask d.vals)[it.pos.toNat]?.getD (⟨#[]⟩, 0)).1, value := ((sortedOf F.mask d.vals)[it.pos.toNat]?.getD (⟨#[]⟩, 0)).2 }
def nextF (F : FamD) (n : Int) (it : IterD) (d : MapD) : FamD :=
  if (d.vals.length : Int) ≤ it.pos then F else { F with iters := aset F.iters n { it with pos := it.pos + 1 } }
set_option maxRecDepth 100000 in
set_option maxHeartbeats 1000000 in
theorem next_end (w : World) (bf bm bi : Nat) (F : FamD) (N : Nat) (hN : N ≤ 1099511627776) (hok : FamOk N F) (h : FamIs w bf bm bi F) (n : Int) (it : IterD) (d : MapD) (hi : alook F.iters n = some it) (hm : alook F.maps it.number = some d) (hp : (d.vals.length : Int) ≤ it.pos) :
    Calls Try.prog 34 #[.pointer (some ⟨bf, 0, none⟩), .int .i64 n] w fun e w' => e = .returned (.agg (nextR F it d).cells) ∧ FamIs w' bf bm bi (nextF F n it d) ∧ Only (F.own bf bm bi) w w' := by
  have X := Lib.hid (show nextR F it d = {} from if_pos hp)
  have Y := Lib.hid (show nextF F n it d = F from if_pos hp)
  have hlf := h.lt (k := bf) (Or.inl rfl)
  have hlm := h.lt (k := bm) (Or.inr (Or.inl rfl))
  have hli := h.lt (k := bi) (Or.inr (Or.inr (Or.inl rfl)))
  have hmem := alook_mem hm
  have hlr := (h.vals _ hmem).lt
  obtain ⟨c0, c1, c2⟩ := h.cell
  have hl1 := h.look_iters n false
  have hl2 := h.look_maps it.number false
  rw [hi] at hl1
  rw [hm] at hl2
  have hln := fun (W : World) (hW : W.heap[d.ref]? = w.heap[d.ref]?) ty => MapIs.len (P := Try.prog) Try.underlying72 ((h.vals _ hmem).of_block hW) ty
  have HH := Lib.hid h
  simp only [if_false, Bool.false_eq_true, outOf, itV, mapV] at hl1 hl2
  obtain ⟨a1, a2, a3⟩ := blocks_alloc hlm
  obtain ⟨b1, b2, b3⟩ := blocks_alloc hli
  obtain ⟨e1, e2, e3⟩ := blocks_alloc hlr
  obtain ⟨k2, k3⟩ := cells_alloc hlf
  have hd := drew_heap
  obtain ⟨it1, it2, it3⟩ := it
  obtain ⟨r, L, ro⟩ := d
  simp only at *
  clear h hi hm hmem hok
  go_enter Try.func34, Try.ntmps34
  go_wp2_with fail
  go_region
  go_wp2_with fail
  refine bodyPost_ret (v := .agg (nextR F _ _).cells) ?hres rfl ⟨rfl, ?_, ?_⟩
  case hres => rw [X.out]; simp [results, Try.results34, go_sem, ResD.cells]
  · rw [Y.out]
    refine HH.out.below ?_
    exact ((((Below.refl _ _).alloc (Nat.le_refl _) _).alloc (by simp) _).alloc (by simp; omega) _).drew
  · exact (((((Only.refl _ _).alloc _).alloc _).alloc _)).drew
end Go.Proofs.Ytagfghihnkkfiaa
