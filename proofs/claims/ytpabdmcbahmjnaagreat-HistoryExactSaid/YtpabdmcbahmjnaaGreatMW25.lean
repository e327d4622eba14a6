/- What the laws start from: a script that is generated, a machine that is made, and has run. -/
import Derived.Test.YtpabdmcbahmjnaaGreatMA8
import Derived.Test.YtpabdmcbahmjnaaGreatMA3
import Derived.Test.YtpabdmcbahmjnaaGreatMW24
namespace Go.Proofs.YtpabdmcbahmjnaaGreat
open Go Go.RowKit Go.MapKept
set_option linter.unusedSimpArgs false
set_option linter.unusedVariables false
structure MaOk (ts : List (List OpD)) (l : List EvD) : Prop where
 n : ts.length ≤ 3
 each : ∀ t ∈ ts, t.length ≤ 3
 prop : ProperP (lens ts) l
 fit : EvsFit l
 len : l.length ≤ 200
def MaAt (W : World) (p : Nat) (ts : List (List OpD)) (l : List EvD) : Prop :=
 p < W.heap.size ∧ (∃ A c, W.cell? ⟨p, 1, none⟩ = some (.slice A ts.length c) ∧ ThrAt W A ts) ∧ (∃ E d, W.cell? ⟨p, 6, none⟩ = some (.slice E l.length d) ∧ l.length ≤ d ∧ EvsAt W E l)
open Tv in
def GenAt (W : World) (v : Value) (ts : List (List OpD)) : Prop :=
 ∃ (m : Int) (A D : Option Addr) (c n d : Nat), v = .agg #[.int .u64 m, .slice A ts.length c, .slice D n d] ∧ ThrAt W A ts ∧ PkAt W D n ∧ InR .u64 m ∧ ts.length ≤ 3 ∧ (∀ t ∈ ts, t.length ≤ 3) ∧ (∀ t ∈ ts, ∀ o ∈ t, OpOk o.kind o.handle o.key o.value o.expect) ∧ n ≤ 90
open Tv in
def NewAt (w0 w : World) (p : Nat) (ts : List (List OpD)) : Prop :=
 ∃ (W5 : World) (d0 : MD) (σ : Sg) (κ : Nat → Nat), p = d0.bM ∧ Below w0.heap.size w0 W5 ∧ MF W5.heap.size W5 σ κ d0 w ∧ MX W5.heap.size σ 300 0 κ d0 w ∧ EvI ts d0 ∧ ThrAt W5 d0.AT ts ∧ PkAt W5 d0.AP d0.nP ∧ d0.nT = ts.length ∧ d0.nP ≤ 90 ∧ d0.evs = [] ∧ d0.nR = 0 ∧ ts.length ≤ 3 ∧ (∀ t ∈ ts, t.length ≤ 3) ∧ (∀ t ∈ ts, ∀ o ∈ t, OpOk o.kind o.handle o.key o.value o.expect)
theorem gen_s (w : World) (A : Option Addr) (n c : Nat) (hi : Sc.IntsAt w A n) : Calls Tryz.prog 8 #[.slice A n c] w fun e w' => ∃ v ts, e = .returned v ∧ GenAt w' v ts ∧ Below w.heap.size w w' :=
 (Tv.gen_h w A n c hi).mono fun e w' ⟨m, ts, n, A, D, c, d, he, h1, h2, h3, h4, h5, h6, h7, h8, h9, h10⟩ =>
  ⟨_, ts, he, ⟨m, A, D, c, n, d, rfl, h1, h2, ⟨h3, h4⟩, h6, h7, h8, h9⟩, h10⟩
theorem pkAt_below {w W : World} {D : Option Addr} {n : Nat} (h : Tv.PkAt w D n) (hb : Below w.heap.size w W) : Tv.PkAt W D n := fun h0 => by
 obtain ⟨b, off, e1, e2, e3⟩ := h h0
 exact ⟨b, off, e1, Nat.lt_of_lt_of_le e2 hb.size, fun k hk => by
  obtain ⟨z, z1, z2⟩ := e3 k hk
  exact ⟨z, (hb.cell (p := ⟨b, _, none⟩) e2).trans z1, z2⟩⟩
theorem new_s {w : World} {v : Value} {ts : List (List OpD)} (h : GenAt w v ts) : Calls Tryz.prog 7 #[v] w fun e w' => ∃ p, e = .returned (.tuple #[.pointer (some ⟨p, 0, none⟩), .int .i64 0]) ∧ NewAt w w' p ts := by
 obtain ⟨m, A, D, c, n, d, rfl, h1, h2, h3, h4, h5, h6, h7⟩ := h
 refine (Tv.new_h h1 h4 h5 h7 h3).mono ?_
 rintro e w' ⟨W5, d0, σ, κ, rfl, hb, hf, hx, hi, e1, e2, e3, e4, e5, e6⟩
 exact ⟨d0.bM, rfl, W5, d0, σ, κ, rfl, hb, hf, hx, hi, by rw [e1]; exact h1.below hb, by rw [e3, e4]; exact pkAt_below h2 hb, e2, by omega, e5, e6, h4, h5, h6⟩
theorem row_cap {w : World} {B size n c : Nat} {e : TypeId} {A : Option Addr} {xs : List Value} (h : w.ownsRow B e size (.slice A n c) n xs) : n ≤ c := by
 rcases h.2 with ⟨h1, h2⟩ | ⟨g, cap, cur, h1, _, _, hnc, _⟩
 ·rw [h2]; exact Nat.zero_le _
 ·simp only [Value.slice.injEq] at h1
  obtain ⟨_, _, rfl⟩ := h1
  exact hnc
theorem evI_fit {ts : List (List OpD)} {d : Tv.MD} (h : Tv.EvI ts d) (h3 : ts.length ≤ 3) (hl : d.evs.length ≤ 200) : EvsFit d.evs := by
 refine ⟨by omega, fun e he => ?_, fun e he => ?_, fun e he => ?_⟩
 ·obtain ⟨i, hi, rfl⟩ := List.getElem_of_mem he
  have ok := h.prop i _ (List.getElem?_eq_getElem hi)
  have t0 := ok.t0
  have t1 := ok.t1
  rw [List.length_map] at t1
  unfold I64
  omega
 ·obtain ⟨i, hi, rfl⟩ := List.getElem_of_mem he
  have ok := h.prop i _ (List.getElem?_eq_getElem hi)
  have x := ok.idx
  have := cntT_le d.evs i d.evs[i].thread
  unfold I64
  omega
 ·obtain ⟨r1, r2, r3, r4, r5, r6⟩ := h.res e he
  exact ⟨r1, r2, Nat.le_trans r3 (by decide), r4, r5, r6⟩
theorem run_s {w0 w : World} {p : Nat} {ts : List (List OpD)} (h : NewAt w0 w p ts) : Calls Tryz.prog 9 #[.pointer (some ⟨p, 0, none⟩)] w fun e w' => (∃ v, e = .returned v) ∧ Below w0.heap.size w0 w' ∧ ∃ l, MaOk ts l ∧ MaAt w' p ts l := by
 obtain ⟨W5, d0, σ, κ, rfl, hb, hf, hx, hi, hT, hP, e2, e4, e5, e6, h4, h5, h6⟩ := h
 refine (Tv.run_h hf hx hi rfl hT h6 (by omega) (fun t ht => by have := h5 t ht; omega) (by rw [e5]; decide) (by omega) (by decide) (by decide) (by decide) (by omega) hP).mono ?_
 rintro e w' ⟨he, d', σ', κ', L', hf', hx', hi', st, l1, l2, l3, l4⟩
 have hl : d'.evs.length ≤ 200 := by
  rw [e5] at l3
  simp only [List.length_nil] at l3
  omega
 have hM := hf'.M
 rw [st.bM] at hM
 have c1 := blk_cell hM 1
 have c6 := blk_cell hM 6
 simp only [Tv.MD.cells, List.getElem?_toArray, List.getElem?_cons_zero, List.getElem?_cons_succ] at c1 c6
 rw [st.AT, st.nT, e2] at c1
 exact ⟨he, hb.trans (hf'.below.mono hb.size), d'.evs, ⟨h4, h5, hi'.prop, evI_fit hi' h4 hl, hl⟩, (Array.getElem?_eq_some_iff.1 hM).1, ⟨d0.AT, d'.cT, c1, hT.below hf'.below⟩, d'.AE, d'.cE, c6, row_cap hf'.ev, evsAt_of_row hf'.ev rfl⟩
theorem MaOk.thr {ts : List (List OpD)} {l : List EvD} (h : MaOk ts l) : ThrFit ts := ⟨by have := h.n; omega, fun t ht => by have := h.each t ht; omega⟩
theorem EvsAt.take {w : World} {A : Option Addr} {l : List EvD} (h : EvsAt w A l) (n : Nat) : EvsAt w A (l.take n) := fun h0 => by
 obtain ⟨b, off, e1, e2, e3⟩ := h (by rw [List.length_take] at h0; omega)
 refine ⟨b, off, e1, e2, fun k e hk => e3 k e ?_⟩
 rw [List.getElem?_take] at hk
 split at hk
 ·exact hk
 ·cases hk
end Go.Proofs.YtpabdmcbahmjnaaGreat
