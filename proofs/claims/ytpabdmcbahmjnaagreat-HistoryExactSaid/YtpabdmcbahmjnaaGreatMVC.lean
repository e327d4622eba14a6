/- Part of a proof: V7 V8. -/
import Derived.Test.YtpabdmcbahmjnaaGreatMV6
namespace Go.Proofs.YtpabdmcbahmjnaaGreat
namespace Tv
open Go Go.RowKit Go.MapKept
set_option linter.unusedSimpArgs false
set_option linter.unusedVariables false
def zres : Array Value := #[.int .i64 0, .bool false, .int .u64 0, .string ⟨#[]⟩, .int .i64 0, .int .i64 0, .int .i64 0, .bool false]
def CtPost (bm be : Nat) (σ : Sg) (x : XS) (w : World) (e : Ending) (w' : World) : Prop :=
 ∃ (n : Int) (σ' : Sg) (x' : XS), e = .returned (.agg #[.int .i64 0, .bool false, .int .u64 0, .string ⟨#[]⟩, .int .i64 n, .int .i64 0, .int .i64 0, .bool false]) ∧ InR .i64 n ∧ EW bm be σ' x' w' ∧ HF bm be σ w σ' w' ∧ UpS x x' [] [] 64
def CtRel (bm be : Nat) (σ : Sg) (x : XS) (w : World) (k : Nat) (v3 : Value) (wr : World) : Prop :=
 ∃ (σr : Sg) (xr : XS) (st : Bool) (v : Value) (fr : List (Int × Int)) (A : Option Addr) (rr cr : Nat) (n : Int), v3 = .int .i64 n ∧ InR .i64 n ∧ k = MM xr fr rr ∧ EW bm be σr xr wr ∧ HF bm be σ w σr wr ∧ (Lo bm be σr wr w.heap.size ∧ Lo bm be σr wr (w.heap.size + 1)) ∧
  wr.heap[w.heap.size]? = some (.cells zres 56 (0, 0)) ∧ wr.heap[w.heap.size + 1]? = some (.cells #[.bool st, v, .slice A rr cr] 104 (0, 0)) ∧
  StkAt bm be σr wr v fr ∧ Fbd fr ∧ SlOk tab σr 139 A rr cr ∧ rr ≤ xr.L ∧ UpS x xr [] fr (if st then 64 else 0)
def res8 (w : World) (P : Nat) (n : Int) : World := (((((((w.setCell ⟨P, 0, none⟩ (.int .i64 0)).setCell ⟨P, 1, none⟩ (.bool false)).setCell ⟨P, 2, none⟩ (.int .u64 0)).setCell ⟨P, 3, none⟩ (.string ⟨#[]⟩)).setCell ⟨P, 4, none⟩ (.int .i64 n)).setCell ⟨P, 5, none⟩ (.int .i64 0)).setCell ⟨P, 6, none⟩ (.int .i64 0)).setCell ⟨P, 7, none⟩ (.bool false)
theorem res8_blk {w : World} {P : Nat} {T : TypeId} (h : w.heap[P]? = some (.cells zres T (0, 0))) (n : Int) : (res8 w P n).heap[P]? = some (.cells #[.int .i64 0, .bool false, .int .u64 0, .string ⟨#[]⟩, .int .i64 n, .int .i64 0, .int .i64 0, .bool false] T (0, 0)) :=
 blk_set (blk_set (blk_set (blk_set (blk_set (blk_set (blk_set (blk_set h (i := 0) (.int .i64 0)) (i := 1) (.bool false)) (i := 2) (.int .u64 0)) (i := 3) (.string ⟨#[]⟩)) (i := 4) (.int .i64 n)) (i := 5) (.int .i64 0)) (i := 6) (.int .i64 0)) (i := 7) (.bool false)
theorem res8_on {S : Nat → Prop} {w w' : World} {P : Nat} (n : Int) (h : OnB S w w') (hP : S P) : OnB S w (res8 w' P n) :=
 ((((((((h.set (p := ⟨P, 0, none⟩) (.inl hP) _).set (p := ⟨P, 1, none⟩) (.inl hP) _).set (p := ⟨P, 2, none⟩) (.inl hP) _).set (p := ⟨P, 3, none⟩) (.inl hP) _).set (p := ⟨P, 4, none⟩) (.inl hP) _).set (p := ⟨P, 5, none⟩) (.inl hP) _).set (p := ⟨P, 6, none⟩) (.inl hP) _).set (p := ⟨P, 7, none⟩) (.inl hP) _)
set_option maxRecDepth 100000 in
set_option maxHeartbeats 8000000 in
theorem count_h {bm be : Nat} {σ : Sg} {x : XS} {w : World} (h : EW bm be σ x w) (hL : (x.L : Int) + 256 * (x.mu + 1) + 600 ≤ 137438950000) :
  Calls Tryz.prog 78 #[.pointer (some ⟨be, 0, none⟩)] w (CtPost bm be σ x w) := by
 have HE := Lib.hid h
 have HL := Lib.hid hL
 clear h hL
 go_enter Tryz.func78, Tryz.ntmps78
 go_wp2_with fail
 go_loopg [3] (MM x [] 0) (fun k v3 wr => CtRel bm be σ x w k v3 wr)
 case atStart =>
  obtain ⟨e1, l1, f1⟩ := HE.out.alloc (.cells zres 56)
  obtain ⟨e2, l2, f2⟩ := e1.alloc (.cells #[.bool false, .slice none 0 0, .slice none 0 0] 104)
  have z1 : (w.alloc (.cells zres 56)).heap.size = w.heap.size + 1 := by simp
  have l1' := f2.keep _ l1
  have hh := (heap_alloc (w.alloc (.cells zres 56)) (.cells #[.bool false, .slice none 0 0, .slice none 0 0] 104)).1
  rw [z1] at l2 hh
  exact ⟨σ, x, false, .slice none 0 0, [], none, 0, 0, 0, rfl, ⟨by rw [i64_min]; omega, by rw [i64_max]; omega⟩, rfl, e2, f1.trans f2, ⟨l1'.1, l2⟩, l1'.2.trans (heap_alloc w _).1, hh,
   ⟨World.ownsRow_nil _ _ _ _, (fun g hg => by simp [Value.ownBlock] at hg), (fun y hy => by cases hy)⟩, (fun y hy => by cases hy), ⟨Nat.le_refl _, by decide, (fun _ => rfl), (fun a ha => by cases ha)⟩, Nat.zero_le _, UpS.refl _ _⟩
 case round =>
  obtain ⟨σr, xr, st, v, fr, A, rr, cr, n, rfl, hn, hk, er, f_r, ⟨l2, l4⟩, b2, b4, sr, fb, so, rl, us⟩ := hrel
  obtain ⟨ar, capr, rfl⟩ := row_form sr.row
  obtain ⟨r0, ro, q, hr0, hq, hrd⟩ := er.reads
  have k35 := (hrd wr rfl).2.2
  have u0 := blk_cell b4 0
  have u1 := blk_cell b4 1
  have u2 := blk_cell b4 2
  have f0 := blk_frozen b4 0
  have f1 := blk_frozen b4 1
  have f2 := blk_frozen b4 2
  simp only [List.getElem?_toArray, List.getElem?_cons_zero, List.getElem?_cons_succ] at u0 u1 u2
  have ER := Lib.hid er
  have FR := Lib.hid f_r
  have L2 := Lib.hid l2
  have L4 := Lib.hid l4
  have B2 := Lib.hid b2
  have B4 := Lib.hid b4
  have SR := Lib.hid sr
  have FB := Lib.hid fb
  have SO := Lib.hid so
  have RL := Lib.hid rl
  have US := Lib.hid us
  have HN := Lib.hid hn
  have KK := Lib.hid hk
  have HQ := Lib.hid hq
  clear hn hk er f_r l2 l4 b2 b4 sr fb so rl us hq hrd hr0
  cases q with
  | true =>
   have m0 := blk_cell B2.out 0
   have fz0 := blk_frozen B2.out 0
   have m1 := blk_cell B2.out 1
   have fz1 := blk_frozen B2.out 1
   have m2 := blk_cell B2.out 2
   have fz2 := blk_frozen B2.out 2
   have m3 := blk_cell B2.out 3
   have fz3 := blk_frozen B2.out 3
   have m4 := blk_cell B2.out 4
   have fz4 := blk_frozen B2.out 4
   have m5 := blk_cell B2.out 5
   have fz5 := blk_frozen B2.out 5
   have m6 := blk_cell B2.out 6
   have fz6 := blk_frozen B2.out 6
   have m7 := blk_cell B2.out 7
   have fz7 := blk_frozen B2.out 7
   simp only [zres, List.getElem?_toArray, List.getElem?_cons_zero, List.getElem?_cons_succ] at m0 m1 m2 m3 m4 m5 m6 m7
   go_wp2_with fail
   change bodyPost _ _ _ _ _ (res8 (wr) w.heap.size n)
   have hb8 := res8_blk (B2.out) n
   have v0 := blk_cell hb8 0
   have v1 := blk_cell hb8 1
   have v2 := blk_cell hb8 2
   have v3 := blk_cell hb8 3
   have v4 := blk_cell hb8 4
   have v5 := blk_cell hb8 5
   have v6 := blk_cell hb8 6
   have v7 := blk_cell hb8 7
   simp only [List.getElem?_toArray, List.getElem?_cons_zero, List.getElem?_cons_succ] at v0 v1 v2 v3 v4 v5 v6 v7
   refine bodyPost_ret (v := .agg #[.int .i64 0, .bool false, .int .u64 0, .string ⟨#[]⟩, .int .i64 n, .int .i64 0, .int .i64 0, .bool false]) (by simp [results, Tryz.results78, go_sem, v0, v1, v2, v3, v4, v5, v6, v7]) rfl ?_
   have W : OnB (fun b => b = w.heap.size) wr (res8 wr w.heap.size n) := res8_on n (OnB.refl _ _) rfl
   refine ⟨n, σr, xr, rfl, HN.out, ER.out.on W (fun b e => by subst e; exact L2.out), FR.out.on W (fun b e => by subst e; omega), ?_⟩
   obtain ⟨a1, a2, a3, a4, a5⟩ := US.out
   cases st
   ·exact ⟨a1, a2, a3, by simp at a4 ⊢; omega, by simp at a5 ⊢; omega⟩
   ·exact ⟨a1, a2, a3, by simp at a4 ⊢; omega, by simp at a5 ⊢; omega⟩
  | false =>
   have hz1 : xr.z = 1 := by
    have h0 := ER.out.z0
    have h1 := ER.out.z1
    have h2 : xr.z ≠ 0 := fun e => by have := HQ.out.2 e; cases this
    omega
   have HZ1 := Lib.hid hz1
   clear hz1
   have hmu0 : 0 ≤ xr.mu := by
    have a := mu_nn ER.out.xi
    have b := ER.out.z0
    unfold XS.mu
    omega
   have hL1 : (xr.L : Int) + 256 * (xr.mu + 1) + 512 ≤ 137438950000 := by
    have h1 := US.out.pot
    have h2 := HL.out
    have h3 : (if st then 64 else 0 : Nat) ≤ 64 := by cases st <;> decide
    omega
   have hfs : (fr.length : Int) + xr.mu ≤ 1000000000 := by
    have h1 := US.out.len
    have h2 := HL.out
    simp at h1
    omega
   have HL1 := Lib.hid hL1
   have HFS := Lib.hid hfs
   clear hL1 hfs
   go_wp2_with fail
   refine (step_h ER.out HL1.out HZ1.out (.slice ar fr.length capr) fr SR.out FB.out HFS.out A rr cr SO.out RL.out st _ rfl).mono ?_
   rintro e w' ⟨σ', x', v', fs', A', r', c', pk, pv, ok, rfl, e', f', s', fb', so', rl', us', hm⟩
   obtain ⟨a', c2', rfl⟩ := row_form s'.row
   have HB4 := Lib.hid ((f'.keep _ L4.out).2.trans B4.out)
   have HB2 := Lib.hid ((f'.keep _ L2.out).2.trans B2.out)
   have t0 := blk_cell HB4.out 0
   have t1 := blk_cell HB4.out 1
   have t2 := blk_cell HB4.out 2
   have g0 := blk_frozen HB4.out 0
   have g1 := blk_frozen HB4.out 1
   have g2 := blk_frozen HB4.out 2
   simp only [List.getElem?_toArray, List.getElem?_cons_zero, List.getElem?_cons_succ] at t0 t1 t2
   have E' := Lib.hid e'
   have F' := Lib.hid f'
   have S' := Lib.hid s'
   have FB' := Lib.hid fb'
   have SO' := Lib.hid so'
   have RL' := Lib.hid rl'
   have US' := Lib.hid us'
   have HM := Lib.hid hm
   clear e' f' s' fb' so' rl' us' hm
   cases ok with
   | true =>
    go_wp2_with fail
    go_roundg (MM x' fs' r')
    case measure => rw [KK.out]; exact HM.out trivial
    case rel =>
     have W : OnB (fun b => b = w.heap.size + 1) w' (((w'.setCell ⟨w.heap.size + 1, 0, none⟩ (.bool true)).setCell ⟨w.heap.size + 1, 1, none⟩ (.slice a' fs'.length c2')).setCell ⟨w.heap.size + 1, 2, none⟩ (.slice A' r' c')) :=
      OnB.set (S := fun b => b = w.heap.size + 1) (OnB.set (S := fun b => b = w.heap.size + 1) (OnB.set (S := fun b => b = w.heap.size + 1) (OnB.refl _ _) (p := ⟨w.heap.size + 1, 0, none⟩) (.inl rfl) _) (p := ⟨w.heap.size + 1, 1, none⟩) (.inl rfl) _) (p := ⟨w.heap.size + 1, 2, none⟩) (.inl rfl) _
     have l2 := (F'.out.keep _ L2.out).1
     have l4 := (F'.out.keep _ L4.out).1
     have ne : ∀ g, (Value.slice a' fs'.length c2').ownBlock = some g → g ≠ w.heap.size + 1 := by
      intro g hg e
      obtain ⟨_, cur, hc⟩ := row_kind S'.out.row hg
      subst e
      rw [HB4.out] at hc
      injection hc with hc
      injection hc with _ h2 _
      exact absurd h2 (by decide)
     exact ⟨σ', x', true, .slice a' fs'.length c2', fs', A', r', c', _, rfl, ⟨by rw [i64_min]; unfold wrap64; omega, by rw [i64_max]; unfold wrap64; omega⟩, rfl, E'.out.on W (fun b e => by subst e; exact l4), (FR.out.trans F'.out).on W (fun b e => by subst e; omega), ⟨l2.on W.size, l4.on W.size⟩, (W.block _ l2.1 (by show ¬ (w.heap.size = w.heap.size + 1); omega)).trans HB2.out,
      blk_set (blk_set (blk_set HB4.out (i := 0) (.bool true)) (i := 1) (.slice a' fs'.length c2')) (i := 2) (.slice A' r' c'), S'.out.on W (fun g hg e => ne g hg e), FB'.out, SO'.out, RL'.out, by
      obtain ⟨a1, a2, a3, a4, a5⟩ := US.out
      obtain ⟨b1, b2, b3, b4, b5⟩ := US'.out
      cases st
      ·exact ⟨by omega, by omega, by omega, by simp at a4 b4 ⊢; omega, by omega⟩
      ·exact ⟨by omega, by omega, by omega, by simp at a4 b4 ⊢; omega, by omega⟩⟩
   | false =>
    have m0 := blk_cell HB2.out 0
    have fz0 := blk_frozen HB2.out 0
    have m1 := blk_cell HB2.out 1
    have fz1 := blk_frozen HB2.out 1
    have m2 := blk_cell HB2.out 2
    have fz2 := blk_frozen HB2.out 2
    have m3 := blk_cell HB2.out 3
    have fz3 := blk_frozen HB2.out 3
    have m4 := blk_cell HB2.out 4
    have fz4 := blk_frozen HB2.out 4
    have m5 := blk_cell HB2.out 5
    have fz5 := blk_frozen HB2.out 5
    have m6 := blk_cell HB2.out 6
    have fz6 := blk_frozen HB2.out 6
    have m7 := blk_cell HB2.out 7
    have fz7 := blk_frozen HB2.out 7
    simp only [zres, List.getElem?_toArray, List.getElem?_cons_zero, List.getElem?_cons_succ] at m0 m1 m2 m3 m4 m5 m6 m7
    go_wp2_with fail
    have l2 := (F'.out.keep _ L2.out).1
    have l4 := (F'.out.keep _ L4.out).1
    have W1 : OnB (fun b => b = w.heap.size + 1) w' (((w'.setCell ⟨w.heap.size + 1, 0, none⟩ (.bool true)).setCell ⟨w.heap.size + 1, 1, none⟩ (.slice a' fs'.length c2')).setCell ⟨w.heap.size + 1, 2, none⟩ (.slice A' r' c')) :=
     OnB.set (S := fun b => b = w.heap.size + 1) (OnB.set (S := fun b => b = w.heap.size + 1) (OnB.set (S := fun b => b = w.heap.size + 1) (OnB.refl _ _) (p := ⟨w.heap.size + 1, 0, none⟩) (.inl rfl) _) (p := ⟨w.heap.size + 1, 1, none⟩) (.inl rfl) _) (p := ⟨w.heap.size + 1, 2, none⟩) (.inl rfl) _
    have hB3 := (W1.block _ l2.1 (by show ¬ (w.heap.size = w.heap.size + 1); omega)).trans HB2.out
    change bodyPost _ _ _ _ _ (res8 ((((w'.setCell ⟨w.heap.size + 1, 0, none⟩ (.bool true)).setCell ⟨w.heap.size + 1, 1, none⟩ (.slice a' fs'.length c2')).setCell ⟨w.heap.size + 1, 2, none⟩ (.slice A' r' c'))) w.heap.size n)
    have hb8 := res8_blk (hB3) n
    have v0 := blk_cell hb8 0
    have v1 := blk_cell hb8 1
    have v2 := blk_cell hb8 2
    have v3 := blk_cell hb8 3
    have v4 := blk_cell hb8 4
    have v5 := blk_cell hb8 5
    have v6 := blk_cell hb8 6
    have v7 := blk_cell hb8 7
    simp only [List.getElem?_toArray, List.getElem?_cons_zero, List.getElem?_cons_succ] at v0 v1 v2 v3 v4 v5 v6 v7
    refine bodyPost_ret (v := .agg #[.int .i64 0, .bool false, .int .u64 0, .string ⟨#[]⟩, .int .i64 n, .int .i64 0, .int .i64 0, .bool false]) (by simp [results, Tryz.results78, go_sem, v0, v1, v2, v3, v4, v5, v6, v7]) rfl ?_
    have W : OnB (fun b => b = w.heap.size ∨ b = w.heap.size + 1) w' (res8 (((w'.setCell ⟨w.heap.size + 1, 0, none⟩ (.bool true)).setCell ⟨w.heap.size + 1, 1, none⟩ (.slice a' fs'.length c2')).setCell ⟨w.heap.size + 1, 2, none⟩ (.slice A' r' c')) w.heap.size n) := res8_on n (W1.mono fun b h => .inr h) (.inl rfl)
    refine ⟨n, σ', x', rfl, HN.out, E'.out.on W (fun b e => by
     rcases e with e | e
     ·subst e; exact l2
     ·subst e; exact l4), (FR.out.trans F'.out).on W (fun b e => by rcases e with e | e <;> omega), ?_⟩
    obtain ⟨a1, a2, a3, a4, a5⟩ := US.out
    obtain ⟨b1, b2, b3, b4, b5⟩ := US'.out
    cases st
    ·exact ⟨by omega, by omega, by omega, by simp at a4 b4 ⊢; omega, by simp at a5 b5 ⊢; omega⟩
    ·exact ⟨by omega, by omega, by omega, by simp at a4 b4 ⊢; omega, by simp at a5 b5 ⊢; omega⟩
end Tv
end Go.Proofs.YtpabdmcbahmjnaaGreat
namespace Go.Proofs.YtpabdmcbahmjnaaGreat
namespace Tv
open Go Go.RowKit
set_option linter.unusedSimpArgs false
set_option linter.unusedVariables false
def scount : Fs where
 α := Nat × Nat × Nat × Nat × Nat × Int × Int × Int × Int × Int × Prop
 δ := Nat × Nat × Nat × Nat × Nat × Int × Int × Int × Int × Int × Int
 A := fun | (L, G, M, C, E, a, m, c, g, f, s) => [.one (.c (.loc 1001 0))]
 B := fun | (L, G, M, C, E, a, m, c, g, f, s) => [(1000, memB L), (1001, exB L G M C E a m c g f s)]
 L := fun | (L, G, M, C, E, a, m, c, g, f, s) => L
 get := fun avs bx L => exGet bx L
 pre := fun | (L, G, M, C, E, a, m, c, g, f, s) => XI L G M C E a m c g f ∧ (L : Int) + 256 * (mu G a f + 2) + 600 ≤ 137438950000
 rel := fun | (L, G, M, C, E, a, m, c, g, f, s), (L', G', M', C', E', a', m', c', g', f', z') => XI L' G' M' C' E' a' m' c' g' f' ∧ 0 ≤ z' ∧ z' ≤ 1 ∧ L ≤ L' ∧ mu G' a' f' + z' ≤ mu G a f + pz s ∧ (G' : Int) + f' ≤ G + f ∧ (L' : Int) + 256 * (mu G' a' f' + z') ≤ L + 256 * (mu G a f + pz s) + 64
 R := fun | (L, G, M, C, E, a, m, c, g, f, s), (L', G', M', C', E', a', m', c', g', f', z') => .one (.agg [.tint .i64, .tbool, .tint .u64, .str, .tint .i64, .tint .i64, .tint .i64, .tbool])
 B' := fun | (L, G, M, C, E, a, m, c, g, f, s), (L', G', M', C', E', a', m', c', g', f', z') => [(1000, memB L'), (1001, exB L' G' M' C' E' a' m' c' g' f' (z' = 0))]
 L' := fun | (L, G, M, C, E, a, m, c, g, f, s), (L', G', M', C', E', a', m', c', g', f', z') => L'
 reads := [1000, 1001]
 tc := [1000, 1001]
 st := fun p kk => match p with | (L, G, M, C, E, a, m, c, g, f, s) => opnA ([.one (.c (.loc 1001 0))]) fun avs0 => kk avs0 [(1000, memB L), (1001, exB L G M C E a m c g f (pz s = 0))] (L)
 st_ok := fun ⟨L, G, M, C, E, a, m, c, g, f, s⟩ _ h => opnA_imp (fun _ h => opE_st h) h
 cps := fun p kk => match p with | (L, G, M, C, E, a, m, c, g, f, s) => ∀ z : Int, HZ s z → ∀ L' : Nat, ∀ G' : Nat, ∀ M' : Nat, ∀ C' : Nat, ∀ E' : Nat, ∀ a' : Int, ∀ m' : Int, ∀ c' : Int, ∀ g' : Int, ∀ f' : Int, ∀ z' : Int, (XI L' G' M' C' E' a' m' c' g' f') → (0 ≤ z') → (z' ≤ 1) → (L ≤ L') → (mu G' a' f' + z' ≤ mu G a f + z) → ((G' : Int) + f' ≤ G + f) → ((L' : Int) + 256 * (mu G' a' f' + z') ≤ L + 256 * (mu G a f + z) + 64) → kk (.one (.agg [.tint .i64, .tbool, .tint .u64, .str, .tint .i64, .tint .i64, .tint .i64, .tbool])) ([(1000, memB L'), (1001, exB L' G' M' C' E' a' m' c' g' f' (z' = 0))]) (L')
 cur := fun ⟨L, G, M, C, E, a, m, c, g, f, s⟩ _ h ⟨L', G', M', C', E', a', m', c', g', f', z'⟩ ⟨h1, h2, h3, h4, h5, h6, h7⟩ => opE_ok (h (pz s) (pz_hz s) L' G' M' C' E' a' m' c' g' f' z' h1 h2 h3 h4 h5 h6 h7)
theorem Fs.use {F : Fs} {avs : List AV} {bx : Bx} {L : Nat} {K : AV → Bx → Nat → Prop} (h : F.spec.wp avs bx L K) : ∃ p, wkA avs (F.A p) ∧ wkB bx (F.B p) ∧ L = F.L p ∧ F.pre p ∧ F.cps p fun r b l => K r (assoc b) l := by
 have h : match F.get avs bx L with
  | some p => wkA avs (F.A p) ∧ wkB bx (F.B p) ∧ L = F.L p ∧ F.pre p ∧ F.cps p fun r b l => K r (assoc b) l
  | none => False := h
 split at h
 ·exact ⟨_, h⟩
 ·exact h.elim
theorem bE_iff {bm be : Nat} {β : Bt} (h0 : β 1000 = some bm) (h1 : β 1001 = some be) (hd : ∀ id b, β id = some b → memb id [1000, 1001] = true) : β = bE bm be := by
 funext i
 by_cases e0 : i = 1000
 ·subst e0; exact h0
 by_cases e1 : i = 1001
 ·subst e1; exact h1
 have hb : ∀ j, i ≠ j → Nat.beq i j = false := fun j hj => by
  cases hb : Nat.beq i j with
  | false => rfl
  | true => exact absurd (Nat.eq_of_beq_eq_true hb) hj
 have e : bE bm be i = none := by
  unfold bE
  simp only [hb _ e0, hb _ e1]
 rw [e]
 cases hbi : β i with
 | none => rfl
 | some b =>
  have := hd i b hbi
  simp only [memb, hb _ e0, hb _ e1] at this
  cases this
theorem HF.fr {bm be : Nat} {σ σ' : Sg} {w w' : World} (h : HF bm be σ w σ' w') : Fr (fun id => memb id [1000, 1001]) σ (bE bm be) w σ' (bE bm be) w' := by
 refine ⟨h.os, h.tape, h.output, h.size, h.sg, h.new, fun _ _ h => h, fun _ _ h => .inl h, ?_, ?_⟩
 ·intro b h1 h2 h3
  exact (h.keep b ⟨h1, h2, fun e => h3 1000 (by subst e; rfl), fun e => h3 1001 (by subst e; rfl)⟩).2
 ·intro id b h1 h2
  rcases bE_some h1 with ⟨e, _⟩ | ⟨e, _⟩ <;> subst e <;> cases h2
theorem sat_count : Sat Tryz.prog tab 78 scount.spec := by
 refine ⟨⟨_, Tryz.func78, rfl, rfl⟩, ?_⟩
 intro avs bx L0 K hwp σ β w args hI hd hd' hargs
 obtain ⟨p, h1, h2, h3, h4, h5⟩ := Fs.use hwp
 obtain ⟨L, G, M, C, E, a, m, c, g, f, s⟩ := p
 obtain ⟨hX, hL⟩ := (show XI L G M C E a m c g f ∧ (L : Int) + 256 * (mu G a f + 2) + 600 ≤ 137438950000 from h4)
 have h3 : L0 = L := h3
 subst h3
 have hkeep : keepB [1000, 1001] β = β := keepB_all hd
 have hA := wkA_ok (ks := [1000, 1001]) hargs h1 rfl
 have hB := hI.weak (ks := [1000, 1001]) rfl h2 rfl
 rw [hkeep] at hA hB
 obtain ⟨bm, hbm⟩ := hd' 1000 rfl
 obtain ⟨be, hbe⟩ := hd' 1001 rfl
 have hβ : β = bE bm be := bE_iff hbm hbe hd
 subst hβ
 obtain ⟨l⟩ := args
 have hA : Argv tab σ (bE bm be) [.one (.c (.loc 1001 0))] l := hA
 cases hA with
 | cons k1 k2 =>
  cases k2
  obtain ⟨b, hb, hv⟩ := k1
  have hb : some be = some b := hb
  injection hb with hb
  subst hb
  subst hv
  have hE : EW bm be σ ⟨L0, G, M, C, E, a, m, c, g, f, pz s⟩ w := by
   refine ⟨?_, hX, pz_0 s, pz_1 s⟩
   unfold xE
   simp only [pz_eq]
   exact hB
  have hmu : (XS.mu ⟨L0, G, M, C, E, a, m, c, g, f, pz s⟩) = mu G a f + pz s := rfl
  have hz1 := pz_1 s
  refine Calls.mono (count_h hE (by rw [hmu]; show (L0 : Int) + _ + _ ≤ _; omega)) ?_
  rintro e w' ⟨n, σ', x', rfl, hn, e', f', us⟩
  refine ⟨_, rfl, _, xE x', x'.L, σ', h5 (pz s) (pz_hz s) x'.L x'.G x'.M x'.C x'.E x'.a x'.m x'.c x'.g x'.f x'.z e'.xi e'.z0 e'.z1 us.le us.mu us.gf (by have := us.pot; rw [hmu] at this; exact this), e'.inv, f'.fr, ?_⟩
  have z64 : InR .i64 0 := ⟨by rw [i64_min]; omega, by rw [i64_max]; omega⟩
  have zu : InR .u64 0 := ⟨by rw [u64_min]; omega, by rw [u64_max]; omega⟩
  exact ⟨_, rfl, .cons ⟨0, rfl, z64⟩ (.cons ⟨false, rfl⟩ (.cons ⟨0, rfl, zu⟩ (.cons ⟨_, rfl, by decide⟩ (.cons ⟨n, rfl, hn⟩ (.cons ⟨0, rfl, z64⟩ (.cons ⟨0, rfl, z64⟩ (.cons ⟨false, rfl⟩ .nil)))))))⟩
end Tv
end Go.Proofs.YtpabdmcbahmjnaaGreat
