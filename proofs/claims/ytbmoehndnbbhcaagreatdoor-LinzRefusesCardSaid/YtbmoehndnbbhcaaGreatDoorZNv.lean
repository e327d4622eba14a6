/- Package linz' search under construction: the steps of its third loop. -/
import Derived.Test.YtbmoehndnbbhcaaGreatDoorMZR
namespace Go.Proofs.YtbmoehndnbbhcaaGreatDoor
set_option linter.unusedVariables false
set_option linter.unusedSimpArgs false
open Go Go.RowKit Go.MapKept
theorem or_u32_nat (a b : Nat) (ha : a < 4294967296) (hb : b < 4294967296) : bits .or .u32 (a : Int) (b : Int) = ((a ||| b : Nat) : Int) := by
  have hx : a ||| b < 2 ^ 32 := Nat.or_lt_two_pow (by omega) (by omega)
  have h1 : (BitVec.ofInt 32 (a : Int)).toNat = a := by
    rw [BitVec.ofInt_natCast, BitVec.toNat_ofNat]; exact Nat.mod_eq_of_lt (by omega)
  have h2 : (BitVec.ofInt 32 (b : Int)).toNat = b := by
    rw [BitVec.ofInt_natCast, BitVec.toNat_ofNat]; exact Nat.mod_eq_of_lt (by omega)
  show IntKind.u32.wrap ((BitVec.ofInt 32 (a : Int) ||| BitVec.ofInt 32 (b : Int)).toNat : Int) = _
  rw [BitVec.toNat_or, h1, h2, IntKind.wrap_u32]
  omega
theorem pow_lt32 {j : Nat} (hj : j ≤ 31) : 2 ^ j < 4294967296 := Nat.lt_of_le_of_lt (Nat.pow_le_pow_right (n := 2) (by omega) hj) (by omega)
theorem or_pow (a j : Nat) (ha : a < 4294967296) (hj : j ≤ 31) : bits .or .u32 (a : Int) (2 ^ j % 4294967296) = ((a ||| 2 ^ j : Nat) : Int) := by
  have h1 : ((2 : Int) ^ j % 4294967296) = ((2 ^ j : Nat) : Int) := by
    have := pow_lt32 hj
    have e : ((2 : Int) ^ j) = ((2 ^ j : Nat) : Int) := by simp
    rw [e]
    generalize 2 ^ j = p at *
    omega
  rw [h1]
  exact or_u32_nat a _ ha (pow_lt32 hj)
theorem u32Info : (Tryz.prog.info? 54).map (fun i => (i.zero, i.size, i.bytes)) = some (some (.int .u32 0), 1, 4) := by kernel_rfl
theorem nsBox_get {rb fm : Nat} {r : Nat → RowD} {req i : Nat} (hi : IsIx i) : (nsBox rb fm r req)[i]? = some (r i).v := by
  rcases hi with rfl | rfl | rfl | rfl | rfl <;> rfl
structure NsPut (w w7 w' : World) (rb : Nat) (r : Nat → RowD) (req i : Nat) (u v' : Value) : Prop where
  ns : NsG w (w'.setCell ⟨w.heap.size + 1, i, none⟩ v') rb (updR r i v' ((r i).n + 1) ((r i).xs ++ [u])) req
  cell : w'.cell? ⟨w.heap.size + 1, i, none⟩ = some (r i).v
  free : w'.frozen? ⟨w.heap.size + 1, i, none⟩ = false
  keep : ∀ (k : Nat) (cs : Array Value), w7.heap[k]? = some (Obj.cells cs 37 (0, 0)) → w'.heap[k]? = some (Obj.cells cs 37 (0, 0)) ∧ (w'.setCell ⟨w.heap.size + 1, i, none⟩ v').heap[k]? = some (Obj.cells cs 37 (0, 0))
theorem ns_put {w w7 W w' : World} {rb : Nat} {r : Nat → RowD} {req i : Nat} (h : NsG w w7 rb r req) (hb : Below w7.heap.size w7 W) (hi : IsIx i) (ht : (r i).t ≠ 37) {u v' : Value}
    (ho : w'.ownsRow (w.heap.size + 2) (r i).t (r i).sz v' ((r i).n + 1) ((r i).xs ++ [u])) (hg : W.grownBy w' (r i).v.ownBlock) (hat : v'.ownBlock = (r i).v.ownBlock ∨ v'.ownBlock = some W.heap.size) : NsPut w w7 w' rb r req i u v' := by
  have hK := h.keep hb
  have hbx := (Array.getElem?_eq_some_iff.1 hK.box).1
  have hrow : ∀ k, (r i).v.ownBlock = some k → w.heap.size + 2 ≤ k ∧ ∃ cur, W.heap[k]? = some (.cells cur (r i).t (0, 0)) := fun k hk => row_kind (hK.row i hi) hk
  have box3 : w'.heap[w.heap.size + 1]? = _ := (hg.block _ hbx (fun e => by have := (hrow _ e.symm).1; omega)).trans hK.box
  refine ⟨h.push hb hi ho hg hat, (blk_cell box3 i).trans (nsBox_get hi), cells_free box3 i, fun k cs hk => ?_⟩
  have hkW := kept_block hk hb
  have hk3 : w'.heap[k]? = some (.cells cs 37 (0, 0)) := (hg.block k (Array.getElem?_eq_some_iff.1 hkW).1 (fun e => by
    obtain ⟨cur, hc⟩ := (hrow k e.symm).2
    rw [hkW] at hc
    simp only [Option.some.injEq, Obj.cells.injEq] at hc
    exact ht hc.2.1.symm)).trans hkW
  refine ⟨hk3, ((turned_set w' (w.heap.size + 1) i v').block k fun e => ?_).trans hk3⟩
  subst e
  rw [box3] at hk3
  simp only [Option.some.injEq, Obj.cells.injEq] at hk3
  exact absurd hk3.2.1 (by decide)
theorem ns_step {ops : Array Oper} {o : Oper} {a : Act} {K : Act → World → Prop} {Q : Exit → Act → World → Prop} {E : Prop} (hgd : o.guard = none) (s x : Operand) (ho : o.op = .call { callee := .builtin .append, args := #[s, x], argTypes := #[39, 39] })
    {w w7 : World} (W : World) {rb : Nat} {r : Nat → RowD} {req : Nat} (h : NsG w w7 rb r req) (i : Nat) (hi : IsIx i) (ht : (r i).t = 3) (hsz : (r i).sz = 1) (hb : Below w7.heap.size w7 W) (hs : a.eval s = (r i).v) (ad : Addr) (hx : a.eval x = .slice (some ad) 1 1) (u : Int)
    (hc : W.cell? ad = some (.int .i64 u)) (hn : (r i).n ≤ 1000)
    (hK : ∀ a' c' w', NsPut w w7 w' rb r req i (.int .i64 u) (.slice a' ((r i).n + 1) c') → K (a.put o.dst (.slice a' ((r i).n + 1) c')) w') : if Region.wanted o (yielded ops a.tmps) = true then Oper.wp Tryz.prog o a W K Q else E := by
  have hw : Region.wanted o (yielded ops a.tmps) = true := by simp [Region.wanted, hgd]
  rw [if_pos hw]
  obtain ⟨i0, hi0, hz0, hz1, hz2⟩ := info_parts3 intInfo
  have hrow := (h.keep hb).row i hi
  rw [ht, hsz] at hrow
  have hB : w.heap.size + 2 ≤ W.heap.size := by
    have h1 := (Array.getElem?_eq_some_iff.1 (h.keep hb).box).1
    omega
  obtain ⟨v', w', hr, ho', hg, _, hat⟩ := run_append_own_at (P := Tryz.prog) W (w.heap.size + 2) 39 o.type 3 i0 _ 1 8 Tryz.underlying39 hi0 hz0 hz1 hz2 rfl (by decide) (r i).v (r i).n (r i).xs hrow ad 1 1 [.int .i64 u] rfl (fun j v hj => by
      match j, hj with
      | 0, hj =>
        simp at hj
        subst hj
        simpa [Addr.add] using hc) (fun v hv => by simp only [List.mem_singleton] at hv; subst hv; rfl) (by unfold maxLen; omega) (by omega) hB
  obtain ⟨a', c', rfl⟩ := row_form ho'
  unfold Oper.wp execOp
  simp only [ho, resolve, invoke, builtin, Sem.run_bind, Sem.run_pure, Result.andThen_ok, List.map_toArray, List.map_cons, List.map_nil, hs, hx, hr]
  refine hK a' c' w' (ns_put h hb hi (by rw [ht]; decide) ?_ hg hat)
  rw [ht, hsz]
  exact ho'
theorem updR_E (v vC vE vK vR vM : Value) (C : List OpP) (E E' : List Nat) (K R M : List Int) (n : Nat) (xs : List Value) (hn : n = E'.length) (hx : xs = u32V E') : updR (nsRows vC vE vK vR vM C E K R M) 3 v n xs = nsRows vC v vK vR vM C E' K R M := by
  subst hn hx
  funext k
  by_cases hk : k = 3
  · subst hk; rw [updR_same]; rfl
  · rw [updR_ne _ _ _ _ hk]
    match k, hk with
    | 0, _ => rfl
    | 1, _ => rfl
    | 2, _ => rfl
    | 3, hk => exact absurd rfl hk
    | 4, _ => rfl
    | 5, _ => rfl
    | k + 6, _ => rfl
theorem updR_K (v vC vE vK vR vM : Value) (C : List OpP) (E : List Nat) (K K' R M : List Int) (n : Nat) (xs : List Value) (hn : n = K'.length) (hx : xs = intV K') : updR (nsRows vC vE vK vR vM C E K R M) 4 v n xs = nsRows vC vE v vR vM C E K' R M := by
  subst hn hx
  funext k
  by_cases hk : k = 4
  · subst hk; rw [updR_same]; rfl
  · rw [updR_ne _ _ _ _ hk]
    match k, hk with
    | 0, _ => rfl
    | 1, _ => rfl
    | 2, _ => rfl
    | 3, _ => rfl
    | 4, hk => exact absurd rfl hk
    | 5, _ => rfl
    | k + 6, _ => rfl
theorem updR_R (v vC vE vK vR vM : Value) (C : List OpP) (E : List Nat) (K R R' M : List Int) (n : Nat) (xs : List Value) (hn : n = R'.length) (hx : xs = intV R') : updR (nsRows vC vE vK vR vM C E K R M) 5 v n xs = nsRows vC vE vK v vM C E K R' M := by
  subst hn hx
  funext k
  by_cases hk : k = 5
  · subst hk; rw [updR_same]; rfl
  · rw [updR_ne _ _ _ _ hk]
    match k, hk with
    | 0, _ => rfl
    | 1, _ => rfl
    | 2, _ => rfl
    | 3, _ => rfl
    | 4, _ => rfl
    | 5, hk => exact absurd rfl hk
    | k + 6, _ => rfl
/-- the sixth row is also what stands at the other places: said where it is read -/
theorem NsG.congr {w wr : World} {rb : Nat} {r r' : Nat → RowD} {req : Nat} (h : NsG w wr rb r req) (he : ∀ i, IsIx i → r' i = r i) : NsG w wr rb r' req := by
  refine ⟨?_, h.map, fun i hi => by rw [he i hi]; exact h.row i hi, fun i j hi hj hij b hb => by rw [he i hi] at hb; rw [he j hj]; exact h.apart i j hi hj hij b hb, h.below⟩
  have := h.box
  unfold nsBox at this ⊢
  rw [he 1 (Or.inl rfl), he 3 (Or.inr (Or.inl rfl)), he 4 (Or.inr (Or.inr (Or.inl rfl))), he 5 (Or.inr (Or.inr (Or.inr (Or.inl rfl)))), he 6 (Or.inr (Or.inr (Or.inr (Or.inr rfl))))]
  exact this
theorem updR_M (v vC vE vK vR vM : Value) (C : List OpP) (E : List Nat) (K R M M' : List Int) (n : Nat) (xs : List Value) (hn : n = M'.length) (hx : xs = intV M') : ∀ i, IsIx i → nsRows vC vE vK vR v C E K R M' i = updR (nsRows vC vE vK vR vM C E K R M) 6 v n xs i := by
  subst hn hx
  intro i hi
  rcases hi with rfl | rfl | rfl | rfl | rfl
  · rw [updR_ne _ _ _ _ (by decide)]; rfl
  · rw [updR_ne _ _ _ _ (by decide)]; rfl
  · rw [updR_ne _ _ _ _ (by decide)]; rfl
  · rw [updR_ne _ _ _ _ (by decide)]; rfl
  · rw [updR_same]; rfl
end Go.Proofs.YtbmoehndnbbhcaaGreatDoor
