/- The law ModelPlays: what lies in memory at the head of a round. The law ModelPlays: one step of both families; the copy. -/
import Derived.Test.YtagfghihnkkfiaaNums
import Derived.Test.YtagfghihnkkfiaaRApG
import Derived.Test.YtagfghihnkkfiaaREqF
import Derived.Test.YtagfghihnkkfiaaAwake
namespace Go.Proofs.Ytagfghihnkkfiaa
set_option linter.unusedVariables false
set_option linter.unusedSimpArgs false
open Go Go.RowKit Go.MapKept
/-- the numbers of a family -/
structure NumA (A : AFam) : Prop where
  maps : ∀ p ∈ A.maps, 0 ≤ p.1 ∧ p.1 ≤ 1000
  iters : ∀ p ∈ A.iters, 0 ≤ p.1 ∧ p.1 ≤ 1000
theorem number_le (t i : Int) : numberOf t i ≤ 1000 := by
  unfold numberOf
  split <;> omega
theorem NumA.apply {A : AFam} (h : NumA A) (t i : Int) (o : OpD) : NumA (applyA A t i o).1 := by
  by_cases hz : refusalA A t i o = 0
  · obtain ⟨k0, k1, k2, ht, h13, hd⟩ := refusal_none hz
    have kn := number_le t i
    have set : ∀ n d, 0 ≤ n ∧ n ≤ 1000 → NumA { A with maps := aset A.maps n d } := fun n d hn => ⟨fun p hp => by
      rcases aset_mem hp with rfl | hp
      · exact hn
      · exact h.maps p hp, h.iters⟩
    have seti : ∀ n d, 0 ≤ n ∧ n ≤ 1000 → NumA { A with iters := aset A.iters n d } := fun n d hn => ⟨h.maps, fun p hp => by
      rcases aset_mem hp with rfl | hp
      · exact hn
      · exact h.iters p hp⟩
    by_cases hk : o.kind = 13
    · rw [applyA_next hz hk]
      unfold nextA
      split
      · exact h
      · rename_i it hit
        split
        · exact h
        · split
          · exact h
          · exact seti _ _ (h.iters _ (alook_mem hit))
    · obtain ⟨d, hd, hu⟩ := hd hk
      have hh := h.maps _ (alook_mem hd)
      rw [applyA_do hz hk hd]
      unfold doA
      split
      · exact set _ _ hh
      split
      · exact set _ _ hh
      split
      · exact h
      split
      · exact set _ _ ⟨k0, kn⟩
      split
      · exact set _ _ hh
      split
      · exact h
      · exact seti _ _ ⟨k0, kn⟩
  · rw [applyA_err hz]; exact h
/-- the reference's family fits -/
theorem refOf_room {N : Nat} {A : AFam} (ok : OkA N A) (hi : A.iters.length ≤ N) (hN : N < 1048576) : RRoom (refOf A) := by
  refine ⟨by have := ok.count; simp [refOf]; omega, by simp only [refOf]; omega, fun x hx => ?_, fun p hp => ?_⟩
  · obtain ⟨q, hq, rfl⟩ := List.mem_map.1 hx
    have := ok.lens q hq
    show (sortedOf A.mask q.2.vals).length < 1048576
    rw [sortedOf_length]
    omega
  · have := ok.nums p hp
    rw [← findM_isSome A.mask] at this
    exact this
/-- the state of the law -/
structure PlAt (w0 : World) (gb N : Nat) (bf bm bi : Nat) (F : FamD) (A0 : AFam) (T : Nat → Prop) (Ar Dr : Option Addr) (c d : Nat) (R : Nat) (W : World) : Prop where
  fam : FamIs W bf bm bi F
  ref : RFamAt T W Ar Dr (refOf A0)
  box : W.heap[gb]? = some (.cells #[.int .u64 A0.mask, .slice Ar (refOf A0).maps.length c, .slice Dr (refOf A0).walks.length d] 59 (0, 0))
  eqv : EqvA F.abs A0
  nd : NdA A0
  ok : OkA N A0
  its : A0.iters.length ≤ N
  num : NumA A0
  apart : ∀ b, T b → ¬ F.own bf bm bi b ∧ b ≠ gb ∧ b < R
  own : ∀ b, F.own bf bm bi b → w0.heap.size ≤ b ∧ b < R ∧ b ≠ gb
  gb0 : w0.heap.size ≤ gb
  gbR : gb < R
  dn : Dr = none → d = 0
  size : R ≤ W.heap.size
  below : Below w0.heap.size w0 W
theorem PlAt.keep {w0 : World} {gb N bf bm bi : Nat} {F : FamD} {A0 : AFam} {T : Nat → Prop} {Ar Dr : Option Addr} {c d R : Nat} {W W' : World} (h : PlAt w0 gb N bf bm bi F A0 T Ar Dr c d R W) (hb : Below R W W') (hR : w0.heap.size ≤ R) : PlAt w0 gb N bf bm bi F A0 T Ar Dr c d R W' :=
  ⟨h.fam.keep fun k hk => hb.block k (h.own k hk).2.1, h.ref.keep ⟨hb.size, fun b hT _ => hb.block b (h.apart b hT).2.2⟩, (hb.block _ h.gbR).trans h.box, h.eqv, h.nd, h.ok, h.its, h.num, h.apart, h.own, h.gb0, h.gbR, h.dn, Nat.le_trans h.size hb.size, h.below.trans (hb.mono hR)⟩
theorem PlAt.head {w0 : World} {gb N bf bm bi : Nat} {F : FamD} {A0 : AFam} {T : Nat → Prop} {Ar Dr : Option Addr} {c d R : Nat} {W : World} (h : PlAt w0 gb N bf bm bi F A0 T Ar Dr c d R W) : PlAt w0 gb N bf bm bi F A0 T Ar Dr c d W.heap.size W :=
  ⟨h.fam, h.ref, h.box, h.eqv, h.nd, h.ok, h.its, h.num, fun b hT => ⟨(h.apart b hT).1, (h.apart b hT).2.1, Nat.lt_of_lt_of_le (h.apart b hT).2.2 h.size⟩, fun b hb => ⟨(h.own b hb).1, Nat.lt_of_lt_of_le (h.own b hb).2.1 h.size, (h.own b hb).2.2⟩, h.gb0, Nat.lt_of_lt_of_le h.gbR h.size, h.dn, Nat.le_refl _, h.below⟩
end Go.Proofs.Ytagfghihnkkfiaa
namespace Go.Proofs.Ytagfghihnkkfiaa
set_option linter.unusedVariables false
set_option linter.unusedSimpArgs false
open Go Go.RowKit Go.MapKept
/-- what the program's Apply leaves -/
def FPost (W : World) (bf bm bi : Nat) (F : FamD) (A1 : AFam) (r : ResD) (e : Ending) (W' : World) : Prop :=
  ∃ F' : FamD, e = .returned (.agg r.cells) ∧ FamIs W' bf bm bi F' ∧ EqvA F'.abs A1 ∧ Only (F.own bf bm bi) W W' ∧ ∀ b, F'.own bf bm bi b → F.own bf bm bi b ∨ W.heap.size ≤ b
theorem fapply_any {W : World} {bf bm bi N : Nat} {F : FamD} {A0 : AFam} (h : FamIs W bf bm bi F) (he : EqvA F.abs A0) (nd : NdA A0) (ok : OkA N A0) (hN : N ≤ 1048576) (t i : Int) (o : OpD) (hk : o.key.size ≤ maxLen) :
    Calls Try.prog 10 #[.pointer (some ⟨bf, 0, none⟩), .int .i64 t, .int .i64 i, o.val] W (FPost W bf bm bi F (applyA A0 t i o).1 (applyA A0 t i o).2) := by
  obtain ⟨q1, q2⟩ := applyA_eqv he nd t i o
  refine (apply_any W bf bm bi F N (by omega) (ok.eqv he nd) t i o h hk).mono fun e w' ⟨F', h1, h2, h3, h4, h5⟩ => ⟨F', by rw [h1, q1], h3, by rw [h2]; exact q2, h4, fun b hb => ?_⟩
  rcases h5 b hb with h | h
  · exact Or.inl h
  · exact Or.inr h.2
theorem apply_ref' {A : AFam} (hn : NdA A) (t i : Int) (o : OpD) : applyR (refOf A) t i o = (refOf (applyA A t i o).1, (applyA A t i o).2) := apply_ref hn t i o
/-- what the reference's Apply leaves -/
def GPost (T : Nat → Prop) (W : World) (A1 : AFam) (r : ResD) (e : Ending) (W' : World) : Prop :=
  ∃ (A' : Option Addr) (c' : Nat) (D' : Option Addr) (d' : Nat), e = .returned (.tuple #[rfamV (refOf A1) A' c' D' d', .agg r.cells]) ∧ RFamAt (fun b => T b ∨ NewB W W' b) W' A' D' (refOf A1) ∧ Below W.heap.size W W' ∧ (D' = none → d' = 0)
theorem gapply_any {T : Nat → Prop} {W : World} {Ar Dr : Option Addr} {c d N : Nat} {A0 : AFam} (h : RFamAt T W Ar Dr (refOf A0)) (nd : NdA A0) (ok : OkA N A0) (its : A0.iters.length ≤ N) (hN : N < 1048576) (dn : Dr = none → d = 0) (t i : Int) (ht : -9223372036854775808 ≤ t ∧ t ≤ 9223372036854775807) (hi : -9223372036854775808 ≤ i ∧ i ≤ 9223372036854775807) (o : OpD) (hk : o.key.size ≤ maxLen) :
    Calls Try.prog 26 #[rfamV (refOf A0) Ar c Dr d, .int .i64 t, .int .i64 i, o.val] W (GPost T W (applyA A0 t i o).1 (applyA A0 t i o).2) := by
  refine (rapply_any T W Ar Dr c d (refOf A0) h t i ht hi o hk dn (refOf_room ok its hN)).mono fun e w' hp => ?_
  rw [apply_ref' nd] at hp
  exact hp
theorem famLe_of {N : Nat} {F : FamD} {A0 : AFam} (he : EqvA F.abs A0) (nd : NdA A0) (ok : OkA N A0) (its : A0.iters.length ≤ N) (hN : N ≤ 1048576) : FamLe F := by
  have ok' := ok.eqv he nd
  refine ⟨?_, ?_, fun p hp => ?_⟩
  · have := ok'.count
    simp only [FamD.abs, amap, List.length_map] at this
    omega
  · have := he.iters
    simp only [FamD.abs] at this
    rw [this]
    omega
  · have := ok'.lens (p.1, p.2.abs) (List.mem_map.2 ⟨p, hp, rfl⟩)
    exact Nat.le_trans this (by omega)
variable {w0 : World} {gb N bf bm bi : Nat} {F : FamD} {A0 : AFam} {T : Nat → Prop} {Ar Dr : Option Addr} {c d R : Nat} {W : World}
/-- both families have made a step -/
theorem PlAt.next {W1 W2 W3 : World} {F' : FamD} {A1 : AFam} {A' D' : Option Addr} {c' d' : Nat} (h : PlAt w0 gb N bf bm bi F A0 T Ar Dr c d R W) (t i : Int) (o : OpD) (hA1 : A1 = (applyA A0 t i o).1)
    (hF : FamIs W1 bf bm bi F') (hE : EqvA F'.abs A1) (hO : Only (F.own bf bm bi) W W1) (hw : ∀ b, F'.own bf bm bi b → F.own bf bm bi b ∨ W.heap.size ≤ b)
    (hb2 : Below W1.heap.size W1 W2) (hr : RFamAt (fun b => T b ∨ NewB W1 W2 b) W2 A' D' (refOf A1)) (hd : D' = none → d' = 0)
    (h3 : ∀ b, b < W2.heap.size → b ≠ gb → W3.heap[b]? = W2.heap[b]?) (hs3 : W2.heap.size ≤ W3.heap.size) (hbox : W3.heap[gb]? = some (.cells #[.int .u64 A1.mask, .slice A' (refOf A1).maps.length c', .slice D' (refOf A1).walks.length d'] 59 (0, 0))) (hbel : Below w0.heap.size w0 W3) :
    PlAt w0 gb (N + 1) bf bm bi F' A1 (fun b => T b ∨ NewB W1 W2 b) A' D' c' d' W3.heap.size W3 := by
  have hWR := h.size
  have hs1 := hO.size
  have hs2 := hb2.size
  have hgR := h.gbR
  have hown : ∀ b, F'.own bf bm bi b → w0.heap.size ≤ b ∧ b < W1.heap.size ∧ b ≠ gb := fun b hb => by
    have hlt := hF.lt hb
    rcases hw b hb with hb | hb
    · have := h.own b hb
      exact ⟨this.1, hlt, this.2.2⟩
    · exact ⟨by have := h.below.size; omega, hlt, by omega⟩
  refine ⟨(hF.below hb2).keep fun k hk => ?_, hr.keep ⟨hs3, fun b hT hb => ?_⟩, hbox, hE, hA1 ▸ h.nd.apply t i o, hA1 ▸ h.ok.apply t i o, ?_, hA1 ▸ h.num.apply t i o, fun b hT => ?_, fun b hb => ?_, h.gb0, by omega, hd, Nat.le_refl _, hbel⟩
  · have := hown k hk
    exact h3 k (by omega) this.2.2
  · refine h3 b hb ?_
    rcases hT with hT | hT
    · exact (h.apart b hT).2.1
    · have := hT.1
      omega
  · have := iters_apply A0 t i o
    have := h.its
    rw [hA1]
    omega
  · rcases hT with hT | hT
    · obtain ⟨a1, a2, a3⟩ := h.apart b hT
      refine ⟨fun hb => ?_, a2, by omega⟩
      rcases hw b hb with hb | hb
      · exact a1 hb
      · omega
    · have k1 := hT.1
      have k2 := hT.2
      exact ⟨fun hb => by have := (hown b hb).2.1; omega, by omega, by omega⟩
  · have := hown b hb
    exact ⟨this.1, by omega, this.2.2⟩
/-- the program's family is a copy from here on -/
theorem PlAt.copied {W6 : World} {cg cm ci : Nat} {G : FamD} (h : PlAt w0 gb N bf bm bi F A0 T Ar Dr c d R W) (hG : FamIs W6 cg cm ci G) (hE : EqvA G.abs A0) (hown : ∀ b, G.own cg cm ci b → W.heap.size ≤ b)
    (h6 : ∀ b, b < R → ¬ F.own bf bm bi b → W6.heap[b]? = W.heap[b]?) (hs : W.heap.size ≤ W6.heap.size) (hbel : Below w0.heap.size w0 W6) :
    PlAt w0 gb N cg cm ci G A0 T Ar Dr c d W6.heap.size W6 := by
  have hWR := h.size
  have hgR := h.gbR
  have hng : ¬ F.own bf bm bi gb := fun hb => (h.own gb hb).2.2 rfl
  refine ⟨hG, h.ref.keep ⟨hs, fun b hT hb => h6 b (h.apart b hT).2.2 (h.apart b hT).1⟩, (h6 gb hgR hng).trans h.box, hE, h.nd, h.ok, h.its, h.num, fun b hT => ?_, fun b hb => ?_, h.gb0, by omega, h.dn, Nat.le_refl _, hbel⟩
  · obtain ⟨a1, a2, a3⟩ := h.apart b hT
    exact ⟨fun hb => by have := hown b hb; omega, a2, by omega⟩
  · have k1 := hown b hb
    have k2 := hG.lt hb
    exact ⟨by have := h.below.size; omega, k2, by omega⟩
end Go.Proofs.Ytagfghihnkkfiaa
