/- Part of a proof: W21 W22 W23 W24a. -/
import Derived.Test.YtpabdmcbahmjnaaGreatMWH
import Derived.Test.YtpabdmcbahmjnaaGreatMSGen
namespace Go.Proofs.YtpabdmcbahmjnaaGreat
namespace Tv
open Go Go.RowKit Go.MapKept
set_option linter.unusedSimpArgs false
set_option linter.unusedVariables false
def opS (o : Sc.OpD) : OpD := ⟨o.kind, o.handle, o.key, o.value, o.expect⟩
theorem opsAt_of {w : World} {u : Option Addr} {t : List Sc.OpD} (h : Sc.OpsAt w u t) : OpsAt w u (t.map opS) := fun h0 => by
 rw [List.length_map] at h0
 obtain ⟨b, off, h1, h2, h3⟩ := h h0
 refine ⟨b, off, h1, h2, fun k o hk => ?_⟩
 rw [List.getElem?_map] at hk
 obtain ⟨o', ho, rfl⟩ := Option.map_eq_some_iff.1 hk
 exact h3 k o' ho
theorem thrAt_of {w : World} {A : Option Addr} {ts : List (List Sc.OpD)} (h : Sc.ThrAt w A ts) : ThrAt w A (ts.map (List.map opS)) := fun h0 => by
 rw [List.length_map] at h0
 obtain ⟨b, off, h1, h2, h3⟩ := h h0
 refine ⟨b, off, h1, h2, fun i t ht => ?_⟩
 rw [List.getElem?_map] at ht
 obtain ⟨t', ht', rfl⟩ := Option.map_eq_some_iff.1 ht
 obtain ⟨u, c, h4, h5⟩ := h3 i t' ht'
 exact ⟨u, c, by rw [List.length_map]; exact h4, opsAt_of h5⟩
theorem pkAt_of {w : World} {D : Option Addr} {ps : List Int} (h : Sc.PicksAt w D ps) (hb : ∀ p ∈ ps, -9223372036854775808 ≤ p ∧ p ≤ 9223372036854775807) : PkAt w D ps.length := fun h0 => by
 obtain ⟨b, off, h1, h2, h3⟩ := h h0
 refine ⟨b, off, h1, h2, fun k hk => ?_⟩
 have hg : ps[k]? = some ps[k] := List.getElem?_eq_getElem hk
 exact ⟨ps[k], h3 k _ hg, hb _ (List.mem_of_getElem? hg)⟩
def GnPost (w : World) (e : Ending) (w' : World) : Prop :=
 ∃ (m : Int) (ts : List (List OpD)) (n : Nat) (A D : Option Addr) (c d : Nat), e = .returned (.agg #[.int .u64 m, .slice A ts.length c, .slice D n d]) ∧ ThrAt w' A ts ∧ PkAt w' D n ∧ 0 ≤ m ∧ m ≤ 18446744073709551615 ∧ 1 ≤ ts.length ∧ ts.length ≤ 3 ∧ (∀ t ∈ ts, t.length ≤ 3) ∧
  (∀ t ∈ ts, ∀ o ∈ t, OpOk o.kind o.handle o.key o.value o.expect) ∧ n ≤ 90 ∧ Below w.heap.size w w'
theorem gen_h (w : World) (A : Option Addr) (n c : Nat) (hi : Sc.IntsAt w A n) : Calls Tryz.prog 8 #[.slice A n c] w (GnPost w) :=
 (Sc.gen_any w A n c hi).mono fun e w' ⟨P, m, ts, ps, vt, vp, us, he, hb, m0, m1, h1, h2, hok, hp, hpb⟩ => by
  subst he
  obtain ⟨A, c, D, d, e1, e2, e3⟩ := hb.scr ⟨⟨by simp only [Sc.genS]; omega, fun t ht => by have := (hok t ht).1; omega⟩, by simp only [Sc.genS]; omega⟩
  refine ⟨m, ts.map (List.map opS), ps.length, A, D, c, d, ?_, thrAt_of e3.thr, pkAt_of e3.pks hpb, m0, m1, by simpa using h1, by simpa using h2, ?_, ?_, hp, hb.below⟩
  ·rw [e1, e2, List.length_map]
   rfl
  ·intro t ht
   obtain ⟨t', h, rfl⟩ := List.mem_map.1 ht
   rw [List.length_map]
   exact (hok t' h).1
  ·intro t ht o ho
   obtain ⟨t', h, rfl⟩ := List.mem_map.1 ht
   obtain ⟨o', h', rfl⟩ := List.mem_map.1 ho
   obtain ⟨q, q6, q7, q8⟩ := (hok t' h).2 o' h'
   have u0 : IntKind.u64.min = 0 := rfl
   have u1 : IntKind.u64.max = 18446744073709551615 := rfl
   exact ⟨⟨by rw [i64_min]; exact q.k0, by rw [i64_max]; exact q.k1⟩, q7, q8, Nat.le_trans q6 (by decide), ⟨by rw [u0]; exact q.v0, by rw [u1]; exact q.v1⟩, ⟨by rw [u0]; exact q.e0, by rw [u1]; exact q.e1⟩⟩
def NwS (w0 : World) (n : Nat) (zs : List (Nat × TypeId × Value)) (zt : Option (Sg × TN)) (W : World) : Prop :=
 Below w0.heap.size w0 W ∧ (zs.map (·.1)).Nodup ∧ (∀ z ∈ zs, w0.heap.size ≤ z.1 ∧ W.heap[z.1]? = some (.cells (List.replicate n z.2.2).toArray z.2.1 (0, 0))) ∧
  (∀ p, zt = some p → Core p.1 300 W ∧ Bl p.1 nB W p.2.bm (memB 300) ∧ TAt p.1 W p.2 ∧ (w0.heap.size ≤ p.2.bt ∧ w0.heap.size ≤ p.2.bm ∧ w0.heap.size ≤ p.2.bo) ∧ (∀ b x, p.1 b = some x → w0.heap.size ≤ b) ∧ ∀ z ∈ zs, p.1 z.1 = none ∧ z.1 ≠ p.2.bt ∧ z.1 ≠ p.2.bm ∧ z.1 ≠ p.2.bo)
section
variable {w0 W : World} {n : Nat} {zs : List (Nat × TypeId × Value)} {zt : Option (Sg × TN)}
theorem NwS.start (w : World) (n : Nat) : NwS w n [] none w := ⟨Below.refl _ _, List.nodup_nil, (fun z hz => by cases hz), (fun p hp => by cases hp)⟩
theorem NwS.mk (h : NwS w0 n zs zt W) (E : TypeId) (v : Value) {o : Obj} (ho : o = .cells (List.replicate n v).toArray E) : NwS w0 n ((W.heap.size, E, v) :: zs) zt (W.alloc o) := by
 subst ho
 obtain ⟨h1, h2, h3, h4⟩ := h
 have lt : ∀ z ∈ zs, z.1 < W.heap.size := fun z hz => (Array.getElem?_eq_some_iff.1 (h3 z hz).2).1
 refine ⟨h1.alloc h1.size _, ?_, fun z hz => ?_, fun p hp => ?_⟩
 ·rw [List.map_cons, List.nodup_cons]
  refine ⟨fun hm => ?_, h2⟩
  obtain ⟨z, hz, e⟩ := List.mem_map.1 hm
  have := lt z hz
  omega
 ·rcases List.mem_cons.1 hz with rfl | hz
  ·exact ⟨h1.size, (heap_alloc W _).1⟩
  ·refine ⟨(h3 z hz).1, ?_⟩
   exact kept_lt (B := 0) (h3 z hz).2 (below_new W _)
 ·obtain ⟨q1, q2, q3, q4, q5, q6⟩ := h4 p hp
  have F := FM.alloc (fun _ => False) p.1 W (.cells (List.replicate n v).toArray E)
  refine ⟨q1.alloc _, F.bl q2 fun h => h, q3.keep F (fun h => h) fun h => h, q4, q5, fun z hz => ?_⟩
  rcases List.mem_cons.1 hz with rfl | hz
  ·have l1 := q2.lt
   have l2 := q3.lt
   have l3 := q3.olt
   exact ⟨q1.new, by simp only; omega, by simp only; omega, by simp only; omega⟩
  ·exact q6 z hz
theorem NwS.call (h : NwS w0 n zs none W) (mk : Int) (hm : InR .u64 mk) : Calls Tryz.prog 22 #[.int .u64 mk] W fun e w' => ∃ (σ : Sg) (t : TN), e = .returned (.pointer (some ⟨t.bt, 0, none⟩)) ∧ NwS w0 n zs (some (σ, t)) w' := by
 refine (newtable_h W mk hm).mono ?_
 rintro e w' ⟨σ, t, rfl, hc, hbm, ht, F, l1, l2, l3⟩
 obtain ⟨h1, h2, h3, _⟩ := h
 have hb : Below W.heap.size W w' := ⟨F.os, F.tape, F.output, F.size, fun b hb => F.old b hb rfl fun h => h⟩
 have lt : ∀ z ∈ zs, z.1 < W.heap.size := fun z hz => (Array.getElem?_eq_some_iff.1 (h3 z hz).2).1
 refine ⟨σ, t, rfl, h1.trans (hb.mono h1.size), h2, fun z hz => ⟨(h3 z hz).1, kept_lt (B := 0) (h3 z hz).2 hb⟩, fun p hp => ?_⟩
 injection hp with hp
 subst hp
 have s0 := h1.size
 refine ⟨hc, hbm, ht, ⟨by simp only; omega, by simp only; omega, by simp only; omega⟩, fun b x hx => ?_, fun z hz => ?_⟩
 ·rcases F.new b x hx with h | h
  ·cases h
  ·omega
 ·have := lt z hz
  exact ⟨F.non this rfl, by simp only; omega, by simp only; omega, by simp only; omega⟩
theorem NwS.drew (h : NwS w0 n zs zt W) : NwS w0 n zs zt W.drew := by
 obtain ⟨h1, h2, h3, h4⟩ := h
 refine ⟨h1.drew, h2, h3, fun p hp => ?_⟩
 obtain ⟨q1, q2, q3, q4, q5, q6⟩ := h4 p hp
 exact ⟨q1.drew, (FM.drew (fun _ => False) p.1 W).bl q2 fun h => h, q3.keep (FM.drew (fun _ => False) p.1 W) (fun h => h) fun h => h, q4, q5, q6⟩
end
def md0 (bM ba bx bb : Nat) (t : TN) (m : Int) (A D : Option Addr) (n c p d : Nat) : MD :=
 ⟨bM, ba, bx, bb, t, m, A, n, c, D, p, d, none, 0, none, 0, 0, [], List.replicate n 0, List.replicate n none, List.replicate n 0, [], 0, 0, 0⟩
theorem evI0 {ts : List (List OpD)} (bM ba bx bb : Nat) (t : TN) (m : Int) (A D : Option Addr) (c p d : Nat) : EvI ts (md0 bM ba bx bb t m A D ts.length c p d) := by
 refine ⟨rfl, fun i a ha => ?_, fun i e he => ?_, fun i a ha => ?_, fun e he => ?_⟩
 ·have ha : (List.replicate ts.length (0 : Int))[i]? = some a := ha
  obtain ⟨hi, ha⟩ := List.getElem?_eq_some_iff.1 ha
  rw [List.getElem_replicate] at ha
  subst ha
  have hi : i < ts.length := by simpa using hi
  have e1 : (md0 bM ba bx bb t m A D ts.length c p d).exs[i]? = some none := by show (List.replicate ts.length none)[i]? = some none; rw [List.getElem?_replicate, if_pos hi]
  rw [e1]
  rfl
 ·have he : ([] : List EvD)[i]? = some e := he
  simp at he
 ·have ha : (List.replicate ts.length (0 : Int))[i]? = some a := ha
  obtain ⟨hi, ha⟩ := List.getElem?_eq_some_iff.1 ha
  rw [List.getElem_replicate] at ha
  have hi : i < ts.length := by simpa using hi
  refine ⟨0, ts[i], ha.symm, List.getElem?_eq_getElem hi, Nat.zero_le _, fun ⟨b, hb⟩ => ?_⟩
  have e1 : (List.replicate ts.length (none : Option Nat))[i]? = some (some b) := hb
  rw [List.getElem?_replicate, if_pos hi] at e1
  cases e1
 ·cases he
set_option maxHeartbeats 2000000 in
theorem NwS.done {w0 W : World} {zs : List (Nat × TypeId × Value)} {σ : Sg} {t : TN} {n : Nat} (h : NwS w0 n zs (some (σ, t)) W) {ba bx bb : Nat} (ha : (ba, 3, .int .i64 0) ∈ zs) (hx : (bx, 90, .pointer none) ∈ zs) (hb : (bb, 3, .int .i64 0) ∈ zs)
  (e1 : ba ≠ bx) (e2 : ba ≠ bb) (e3 : bx ≠ bb) (m : Int) (A D : Option Addr) (c p d : Nat) :
  ∃ κ, MF w0.heap.size w0 σ κ (md0 W.heap.size ba bx bb t m A D n c p d) (W.alloc (.cells (md0 W.heap.size ba bx bb t m A D n c p d).cells 38)) ∧
   MX w0.heap.size σ 300 0 κ (md0 W.heap.size ba bx bb t m A D n c p d) (W.alloc (.cells (md0 W.heap.size ba bx bb t m A D n c p d).cells 38)) := by
 obtain ⟨h1, h2, h3, h4⟩ := h
 obtain ⟨q1, q2, q3, ⟨q4a, q4b, q4c⟩, q5, q6⟩ := h4 _ rfl
 have lt : ∀ z ∈ zs, z.1 < W.heap.size := fun z hz => (Array.getElem?_eq_some_iff.1 (h3 z hz).2).1
 have la := lt _ ha
 have lx := lt _ hx
 have lb := lt _ hb
 obtain ⟨a1, a2⟩ := h3 _ ha
 obtain ⟨x1, x2⟩ := h3 _ hx
 obtain ⟨b1, b2⟩ := h3 _ hb
 obtain ⟨sa, sa1, sa2, sa3⟩ := q6 _ ha
 obtain ⟨sx, sx1, sx2, sx3⟩ := q6 _ hx
 obtain ⟨sb, sb1, sb2, sb3⟩ := q6 _ hb
 have l1 := q2.lt
 have l2 := q3.lt
 have l3 := q3.olt
 have nm := q3.nm
 have om := q3.om
 have ot := q3.ot
 have s0 := h1.size
 simp only at *
 generalize hmd : md0 W.heap.size ba bx bb t m A D n c p d = dd at *
 have F := FM.alloc (fun _ => False) σ W (.cells dd.cells 38)
 have K := below_new W (.cells dd.cells 38)
 have hM := (heap_alloc W (.cells dd.cells 38)).1
 refine ⟨fun b => if b = W.heap.size then 1 else if b = ba then 2 else if b = bx then 3 else if b = bb then 4 else if b = t.bt then 5 else if b = t.bm then 6 else if b = t.bo then 7 else 0, ?_, ?_⟩
 ·subst hmd
  refine ⟨h1.alloc s0 _, by simp; omega, q5, hM, ?_, ?_, ?_, World.ownsRow_nil _ _ _ _, World.ownsRow_nil _ _ _ _, by simp [md0], by simp [md0], by simp [md0], q1.new, sa, sx, sb, (fun b hb => by simp [Value.ownBlock, md0] at hb), (fun b hb => by simp [Value.ownBlock, md0] at hb), ?_, ?_, ?_, ?_, s0, a1, x1, b1⟩
  ·have := kept_lt (B := 0) a2 K
   rw [show (md0 W.heap.size ba bx bb t m A D n c p d).ats.map (Value.int .i64) = List.replicate n (.int .i64 0) by simp [md0]]
   exact this
  ·have := kept_lt (B := 0) x2 K
   rw [show (md0 W.heap.size ba bx bb t m A D n c p d).exs.map exP = List.replicate n (.pointer none) by simp [md0, exP]]
   exact this
  ·have := kept_lt (B := 0) b2 K
   rw [show (md0 W.heap.size ba bx bb t m A D n c p d).bys.map (Value.int .i64) = List.replicate n (.int .i64 0) by simp [md0]]
   exact this
  ·simp [md0]
  ·show (if ba = W.heap.size then 1 else if ba = ba then 2 else _) = 2
   rw [if_neg (Nat.ne_of_lt la), if_pos rfl]
  ·show (if bx = W.heap.size then 1 else if bx = ba then 2 else if bx = bx then 3 else _) = 3
   rw [if_neg (Nat.ne_of_lt lx), if_neg e1.symm, if_pos rfl]
  ·show (if bb = W.heap.size then 1 else if bb = ba then 2 else if bb = bx then 3 else if bb = bb then 4 else _) = 4
   rw [if_neg (Nat.ne_of_lt lb), if_neg e2.symm, if_neg e3.symm, if_pos rfl]
 ·subst hmd
  refine ⟨q1.alloc _, F.bl q2 (fun h => h), q3.keep F (fun h => h) (fun h => h), ?_, ?_, ?_, q4b, q4a, q4c, fun i b hb => ?_⟩
  ·show (if t.bm = W.heap.size then 1 else if t.bm = ba then 2 else if t.bm = bx then 3 else if t.bm = bb then 4 else if t.bm = t.bt then 5 else if t.bm = t.bm then 6 else _) = 6
   rw [if_neg (Nat.ne_of_lt l1), if_neg sa2.symm, if_neg sx2.symm, if_neg sb2.symm, if_neg nm.symm, if_pos rfl]
  ·show (if t.bt = W.heap.size then 1 else if t.bt = ba then 2 else if t.bt = bx then 3 else if t.bt = bb then 4 else if t.bt = t.bt then 5 else _) = 5
   rw [if_neg (Nat.ne_of_lt l2), if_neg sa1.symm, if_neg sx1.symm, if_neg sb1.symm, if_pos rfl]
  ·show (if t.bo = W.heap.size then 1 else if t.bo = ba then 2 else if t.bo = bx then 3 else if t.bo = bb then 4 else if t.bo = t.bt then 5 else if t.bo = t.bm then 6 else if t.bo = t.bo then 7 else 0) = 7
   rw [if_neg (Nat.ne_of_lt l3), if_neg sa3.symm, if_neg sx3.symm, if_neg sb3.symm, if_neg ot, if_neg om, if_pos rfl]
  ·have hb : (List.replicate n (none : Option Nat))[i]? = some (some b) := hb
   rw [List.getElem?_replicate] at hb
   split at hb <;> cases hb
theorem made1 (z : Value) (n : Nat) : madeCells #[z] n = (List.replicate n z).toArray := by
 apply Array.ext
 ·simp [madeCells]
 ·intro i h1 h2
  simp [madeCells, Nat.mod_one]
theorem int_inf : (Tryz.prog.info? 3).map (fun i => (i.zero, i.size, i.bytes)) = some (some (.int .i64 0), 1, 8) := by kernel_rfl
theorem exp_inf : (Tryz.prog.info? 90).map (fun i => (i.zero, i.size, i.bytes)) = some (some (.pointer none), 1, 8) := by kernel_rfl
theorem make_one {S E : TypeId} {z : Value} (hu : Tryz.prog.underlying S = some (.slice E)) (h : (Tryz.prog.info? E).map (fun i => (i.zero, i.size, i.bytes)) = some (some z, 1, 8)) (hz : z.cells = #[z]) (n : Nat) (hn : n ≤ 1000) (W : World) :
  (Instr.makeSlice S (.int .i64 (n : Int)) (.int .i64 (n : Int))).run Tryz.prog W = .ok (.slice (some ⟨W.heap.size, 0, none⟩) n n) (W.alloc (.cells (List.replicate n z).toArray E)) := by
 obtain ⟨i, hi, he⟩ := Option.map_eq_some_iff.1 h
 simp only [Prod.mk.injEq] at he
 obtain ⟨e1, e2, e3⟩ := he
 have hr := run_make (P := Tryz.prog) W S E i z hu hi e1 .i64 .i64 n n (by omega) (Int.le_refl _) (by rw [e3]; omega) (by omega)
 rw [e2, hz] at hr
 simp only [Int.toNat_natCast, Nat.mul_one] at hr
 rw [made1] at hr
 exact hr
theorem makeI (n : Nat) (hn : n ≤ 1000) (W : World) : (Instr.makeSlice 22 (.int .i64 (n : Int)) (.int .i64 (n : Int))).run Tryz.prog W = .ok (.slice (some ⟨W.heap.size, 0, none⟩) n n) (W.alloc (.cells (List.replicate n (.int .i64 0)).toArray 3)) := make_one Tryz.underlying22 int_inf rfl n hn W
theorem makeX (n : Nat) (hn : n ≤ 1000) (W : World) : (Instr.makeSlice 34 (.int .i64 (n : Int)) (.int .i64 (n : Int))).run Tryz.prog W = .ok (.slice (some ⟨W.heap.size, 0, none⟩) n n) (W.alloc (.cells (List.replicate n (.pointer none)).toArray 90)) := make_one Tryz.underlying34 exp_inf rfl n hn W
end Tv
end Go.Proofs.YtpabdmcbahmjnaaGreat
