/- Package linz' search under construction: memory. No walk in sight. The walk of package linz' contains. The walk of package linz' ordered. -/
import Derived.Test.YtbmoehndnbbhcaaGreatDoorMZNp
import Derived.Test.YtbmoehndnbbhcaaGreatDoorMZYa
import Derived.Maps.AppendAt
import Derived.Test.YtbmoehndnbbhcaaGreatDoorMZS
import Derived.Test.YtbmoehndnbbhcaaGreatDoorMZRes
namespace Go.Proofs.YtbmoehndnbbhcaaGreatDoor
set_option linter.unusedVariables false
set_option linter.unusedSimpArgs false
open Go Go.RowKit Go.MapKept
structure RowD where
  t : TypeId
  sz : Nat
  v : Value
  n : Nat
  xs : List Value
def IsIx (i : Nat) : Prop := i = 1 ∨ i = 3 ∨ i = 4 ∨ i = 5 ∨ i = 6
def nsBox (rb fm : Nat) (r : Nat → RowD) (req : Nat) : Array Value := #[.pointer (some ⟨rb, 0, none⟩), (r 1).v, .int .u32 req, (r 3).v, (r 4).v, (r 5).v, (r 6).v, .map (some fm)]
structure NsG (w wr : World) (rb : Nat) (r : Nat → RowD) (req : Nat) : Prop where
  box : wr.heap[w.heap.size + 1]? = some (.cells (nsBox rb w.heap.size r req) 89 (0, 0))
  map : wr.heap[w.heap.size]? = some (.map #[] 0)
  row : ∀ i, IsIx i → wr.ownsRow (w.heap.size + 2) (r i).t (r i).sz (r i).v (r i).n (r i).xs
  apart : ∀ i j, IsIx i → IsIx j → i ≠ j → ∀ b, (r i).v.ownBlock = some b → (r j).v.ownBlock ≠ some b
  below : Below w.heap.size w wr
theorem NsG.keep {w wr wr' : World} {rb : Nat} {r : Nat → RowD} {req : Nat} (h : NsG w wr rb r req) (hb : Below wr.heap.size wr wr') : NsG w wr' rb r req :=
  ⟨kept_block h.box hb, kept_block h.map hb, fun i hi => row_keep (h.row i hi) fun g hg => hb.block g (row_lt (h.row i hi) hg), h.apart, h.below.trans (hb.mono h.below.size)⟩
def updR (r : Nat → RowD) (i : Nat) (v : Value) (n : Nat) (xs : List Value) : Nat → RowD := fun k => if k = i then ⟨(r i).t, (r i).sz, v, n, xs⟩ else r k
theorem updR_same (r : Nat → RowD) (i : Nat) (v : Value) (n : Nat) (xs : List Value) : updR r i v n xs i = ⟨(r i).t, (r i).sz, v, n, xs⟩ := if_pos rfl
theorem updR_ne (r : Nat → RowD) {i k : Nat} (v : Value) (n : Nat) (xs : List Value) (h : k ≠ i) : updR r i v n xs k = r k := if_neg h
theorem nsBox_set (rb fm : Nat) (r : Nat → RowD) (req : Nat) (i : Nat) (hi : IsIx i) (v : Value) (n : Nat) (xs : List Value) : (nsBox rb fm r req).setIfInBounds i v = nsBox rb fm (updR r i v n xs) req := by
  rcases hi with rfl | rfl | rfl | rfl | rfl <;> simp [nsBox, updR]
theorem NsG.push {w wr W w3 : World} {rb : Nat} {r : Nat → RowD} {req : Nat} (h : NsG w wr rb r req) (hW : Below wr.heap.size wr W) {i : Nat} (hi : IsIx i) {v' : Value} {n' : Nat} {xs' : List Value}
    (ho : w3.ownsRow (w.heap.size + 2) (r i).t (r i).sz v' n' xs') (hg : W.grownBy w3 (r i).v.ownBlock) (hat : v'.ownBlock = (r i).v.ownBlock ∨ v'.ownBlock = some W.heap.size) :
    NsG w (w3.setCell ⟨w.heap.size + 1, i, none⟩ v') rb (updR r i v' n' xs') req := by
  have hK := h.keep hW
  have hbx := (Array.getElem?_eq_some_iff.1 hK.box).1
  have hrow : ∀ k, (r i).v.ownBlock = some k → w.heap.size + 2 ≤ k := fun k hk => (row_kind (hK.row i hi) hk).1
  have box3 : w3.heap[w.heap.size + 1]? = _ := (hg.block _ hbx (fun e => by have := hrow _ e.symm; omega)).trans hK.box
  have map3 : w3.heap[w.heap.size]? = _ := (hg.block _ (by omega) (fun e => by have := hrow _ e.symm; omega)).trans hK.map
  have tt := turned_set w3 (w.heap.size + 1) i v'
  have b3 : Below w.heap.size w w3 := hK.below.trans (grown_below' hg hK.below.size fun k hk => by have := hrow k hk; omega)
  refine ⟨?_, (tt.block _ (by omega)).trans map3, fun k hk => ?_, fun a b ha hb hab g hga hgb => ?_, RecB.turned_below b3 tt (by omega)⟩
  · rw [cells_set box3, nsBox_set _ _ _ _ _ hi]
  · by_cases hki : k = i
    · subst hki
      rw [updR_same]
      exact row_keep ho fun g hg' => tt.block g (by have := (row_kind ho hg').1; omega)
    · rw [updR_ne _ _ _ _ hki]
      refine row_keep (hK.row k hk) fun g hg' => (tt.block g (by have := (row_kind (hK.row k hk) hg').1; omega)).trans (hg.block g (row_lt (hK.row k hk) hg') fun e => ?_)
      exact hK.apart k i hk hi hki g hg' e.symm
  · by_cases hai : a = i
    · subst hai
      have hbi : b ≠ a := fun e => hab e.symm
      rw [updR_same] at hga
      rw [updR_ne _ _ _ _ hbi] at hgb
      simp only at hga
      rcases hat with hat | hat
      · exact hK.apart a b ha hb hab g (hat.symm.trans hga) hgb
      · have := row_lt (hK.row b hb) hgb
        rw [hat] at hga
        simp only [Option.some.injEq] at hga
        omega
    · rw [updR_ne _ _ _ _ hai] at hga
      by_cases hbi : b = i
      · subst hbi
        rw [updR_same] at hgb
        simp only at hgb
        rcases hat with hat | hat
        · exact hK.apart a b ha hb hab g hga (hat.symm.trans hgb)
        · have := row_lt (hK.row a ha) hga
          rw [hat] at hgb
          simp only [Option.some.injEq] at hgb
          omega
      · rw [updR_ne _ _ _ _ hbi] at hgb
        exact hK.apart a b ha hb hab g hga hgb
  where
  grown_below' {w w' : World} {row : Option Nat} {B : Nat} (hg : w.grownBy w' row) (hB : B ≤ w.heap.size) (hr : ∀ k, row = some k → B ≤ k) : Below B w w' :=
    ⟨hg.os, hg.tape, hg.output, hg.size, fun k hk => hg.block k (by omega) fun e => by have := hr k e.symm; omega⟩
theorem NsG.setReq {w wr W : World} {rb : Nat} {r : Nat → RowD} {req : Nat} (h : NsG w wr rb r req) (hW : Below wr.heap.size wr W) (q : Nat) : NsG w (W.setCell ⟨w.heap.size + 1, 2, none⟩ (.int .u32 q)) rb r q := by
  have hK := h.keep hW
  have tt := turned_set W (w.heap.size + 1) 2 (.int .u32 (q : Int))
  refine ⟨?_, (tt.block _ (by omega)).trans hK.map, fun k hk => row_keep (hK.row k hk) fun g hg' => tt.block g (by have := (row_kind (hK.row k hk) hg').1; omega), hK.apart, RecB.turned_below hK.below tt (by omega)⟩
  rw [cells_set hK.box]
  simp [nsBox]
def u32V (L : List Nat) : List Value := L.map fun x : Nat => Value.int .u32 (x : Int)
def intV (L : List Int) : List Value := L.map fun x : Int => Value.int .i64 x
theorem u32s_of_row {w : World} {B c : Nat} {A : Option Addr} {L : List Nat} {n : Nat} (h : w.ownsRow B 54 1 (.slice A n c) n (u32V L)) (hn : n = L.length) : U32sAt w A L := fun h0 => by
  obtain ⟨g, cap, hv⟩ := row_some h (by omega)
  simp only [Value.slice.injEq, true_and] at hv
  obtain ⟨rfl, rfl⟩ := hv
  refine ⟨g, 0, rfl, row_lt h rfl, fun j x hx => ?_⟩
  have c1 := h.cells (g := g) rfl j (.int .u32 (x : Int)) (by simp [u32V, hx])
  rw [raddr] at c1
  rwa [Nat.zero_add]
theorem ints_of_row {w : World} {B c : Nat} {A : Option Addr} {L : List Int} {n : Nat} (h : w.ownsRow B 3 1 (.slice A n c) n (intV L)) (hn : n = L.length) : IntsA w A L := fun h0 => by
  obtain ⟨g, cap, hv⟩ := row_some h (by omega)
  simp only [Value.slice.injEq, true_and] at hv
  obtain ⟨rfl, rfl⟩ := hv
  refine ⟨g, 0, rfl, row_lt h rfl, fun j x hx => ?_⟩
  have c1 := h.cells (g := g) rfl j (.int .i64 x) (by simp [intV, hx])
  rw [raddr] at c1
  rwa [Nat.zero_add]
/-- the rows of a search under construction -/
def nsRows (vC vE vK vR vM : Value) (C : List OpP) (E : List Nat) (K R M : List Int) : Nat → RowD
  | 1 => ⟨37, 2, vC, C.length, C.flatMap opC2⟩
  | 3 => ⟨54, 1, vE, E.length, u32V E⟩
  | 4 => ⟨3, 1, vK, K.length, intV K⟩
  | 5 => ⟨3, 1, vR, R.length, intV R⟩
  | _ => ⟨3, 1, vM, M.length, intV M⟩
theorem NsG.done {w wr : World} {rb : Nat} {vC vE vK vR vM : Value} {s : SrD} {req : Nat} (h : NsG w wr rb (nsRows vC vE vK vR vM s.cands s.early s.kinds s.reads s.makes) req) (hr : req = s.req) : SrAt wr (w.heap.size + 1) rb w.heap.size s := by
  have h1 := h.row 1 (Or.inl rfl)
  have h3 := h.row 3 (Or.inr (Or.inl rfl))
  have h4 := h.row 4 (Or.inr (Or.inr (Or.inl rfl)))
  have h5 := h.row 5 (Or.inr (Or.inr (Or.inr (Or.inl rfl))))
  have h6 := h.row 6 (Or.inr (Or.inr (Or.inr (Or.inr rfl))))
  have hb := h.box
  simp only [nsRows] at h1 h3 h4 h5 h6
  obtain ⟨a1, c1, rfl⟩ := row_form h1
  obtain ⟨a3, c3, rfl⟩ := row_form h3
  obtain ⟨a4, c4, rfl⟩ := row_form h4
  obtain ⟨a5, c5, rfl⟩ := row_form h5
  obtain ⟨a6, c6, rfl⟩ := row_form h6
  subst hr
  exact ⟨⟨a1, c1, a3, c3, a4, c4, a5, c5, a6, c6, hb, ordAt_of_row h1 rfl, u32s_of_row h3 rfl, ints_of_row h4 rfl, ints_of_row h5 rfl, ints_of_row h6 rfl⟩⟩
end Go.Proofs.YtbmoehndnbbhcaaGreatDoor
namespace Go.Proofs.YtbmoehndnbbhcaaGreatDoor
set_option linter.unusedVariables false
set_option linter.unusedSimpArgs false
open Go Go.RowKit Go.MapKept
theorem zero_bool (w : World) : (zeroValue 4).run Tryz.prog w = .ok (.bool false) w := by kernel_rfl
theorem make_map78 (w : World) : (Instr.makeMap 78 none).run Tryz.prog w = .ok (.map (some w.heap.size)) (w.alloc (.map #[] 0)) := rfl
/-- a set of operations in memory -/
def SetW (w : World) (m : Nat) (L : List OpP) : Prop := MapW w m opV Value.bool OpFit (L.map fun a => (a, true))
theorem alook_set (L : List OpP) (a : OpP) : alook (L.map fun x => (x, true)) a = if a ∈ L then some true else none := by
  induction L with
  | nil => rfl
  | cons x r ih =>
    simp only [List.map_cons, alook]
    by_cases h : x = a
    · simp [h]
    · have : ¬ a = x := fun e => h e.symm
      simp [h, this, ih]
theorem SetW.look {w : World} {m : Nat} {L : List OpP} (h : SetW w m L) (a : OpP) (ha : OpFit a) : (Instr.lookup 78 (.map (some m)) (.agg #[.int .i64 a.1, .int .i64 a.2]) false).run Tryz.prog w = .ok (.bool (decide (a ∈ L))) w := by
  have := MapW.lookup opKey Tryz.underlying78 (zero_bool w) h a ha false
  rw [alook_set] at this
  unfold opV at this
  rw [this]
  by_cases hm : a ∈ L <;> simp [hm, outOf]
theorem SetW.add {w : World} {m : Nat} {L : List OpP} (h : SetW w m L) (a : OpP) (ha : OpFit a) (hn : a ∉ L) : ∃ w', (Instr.mapUpdate 78 (.map (some m)) (.agg #[.int .i64 a.1, .int .i64 a.2]) (.bool true)).run Tryz.prog w = .ok () w' ∧ SetW w' m (L ++ [a]) ∧ Turned m w w' := by
  obtain ⟨o, h1, h2⟩ := MapW.update opKey Tryz.underlying78 h a ha true
  refine ⟨_, h1, ?_, Turned.mk' m o⟩
  unfold SetW
  have e : aset (L.map fun x => (x, true)) a true = (L ++ [a]).map fun x => (x, true) := by
    rw [aset_new (fun p hp => ?_)]
    · simp
    · obtain ⟨x, hx, rfl⟩ := List.mem_map.1 hp
      exact fun e => hn (e ▸ hx)
  rw [← e]
  exact h2
theorem SetW.keep {w w' : World} {m : Nat} {L : List OpP} (h : SetW w m L) (hb : Below w.heap.size w w') : SetW w' m L := MapW.of_block h (hb.block m (MapW.lt h))
theorem turned_belowZ {B : Nat} {a b c : World} {m : Nat} (h : Below B a b) (ht : Turned m b c) (hm : B ≤ m) : Below B a c :=
  ⟨ht.os.trans h.os, ht.tape.trans h.tape, ht.output.trans h.output, by rw [ht.size]; exact h.size, fun k hk => (ht.block k (by omega)).trans (h.block k hk)⟩
def OrdFit (order : List OpP) : Prop := ∀ a ∈ order, OpFit a
def CoRel (w : World) (l : List EvD) (order : List OpP) (i : Value) (wr : World) : Prop :=
  ∃ j : Nat, j ≤ order.length ∧ i = .int .i64 j ∧ GoodO l order j ∧ SetW wr w.heap.size (order.take j) ∧ Below w.heap.size w wr
def HasTo (ts : List (List OpD)) (l : List EvD) (order : List OpP) (T I : Nat) : Prop := ∀ (t i : Nat) (tt : List OpD), ts[t]? = some tt → i < tt.length → (t < T ∨ (t = T ∧ i < I)) → whenP l ((t : Int), (i : Int)) true ≠ -1 → refusedP l ((t : Int), (i : Int)) = false → ((t : Int), (i : Int)) ∈ order
def CoOut (w : World) (ts : List (List OpD)) (l : List EvD) (order : List OpP) (i : Value) (wr : World) : Prop := ∃ j : Nat, j ≤ ts.length ∧ i = .int .i64 j ∧ HasTo ts l order j 0 ∧ SetW wr w.heap.size order ∧ Below w.heap.size w wr
def CoIn (w : World) (ts : List (List OpD)) (l : List EvD) (order : List OpP) (T n : Nat) (i : Value) (wr : World) : Prop := ∃ j : Nat, j ≤ n ∧ i = .int .i64 j ∧ HasTo ts l order T j ∧ SetW wr w.heap.size order ∧ Below w.heap.size w wr
set_option maxRecDepth 100000 in
set_option maxHeartbeats 4000000 in
theorem lcontains_any (w : World) (rb : Nat) (ts : List (List OpD)) (l : List EvD) (h : RecOk w rb ts l) (O : Option Addr) (co : Nat) (order : List OpP) (ho : OrdAt w O order) (hf : OrdFit order) (hn : order.length ≤ 1048576) :
    Calls Tryz.prog 19 #[.pointer (some ⟨rb, 0, none⟩), .slice O order.length co] w fun e w' => e = .returned (.bool (membersP l order)) ∧ Below w.heap.size w w' := by
  have H := Lib.hid h
  have HO := Lib.hid ho
  have HF := Lib.hid hf
  have hl1 := h.fit.len
  have FT := Lib.hid h.fit.each
  have hrl := h.at_.lt
  obtain ⟨A, c, U, d, h1, h2, h3⟩ := h.at_
  obtain ⟨r0, r1⟩ := pair_cells h1
  have H3 := Lib.hid h3
  have M0 : Hid (SetW (w.alloc (.map #[] 0)) w.heap.size []) := MapW.made w opV Value.bool OpFit
  clear h h1 h2 h3 r0 ho hf
  have hmm := make_map78
  go_enter Tryz.func19, Tryz.ntmps19
  go_wp2_with fail
  clear hmm
  have B0 := Lib.hid (balZ (Below.refl w.heap.size w) (.map #[] 0))
  have R1 := Lib.hid r1
  clear r1
  go_loopw [15] (fun i wr => CoRel w l order i wr) (fun i _ => order.length - (intOf i).toNat)
  case atStart => exact ⟨0, by omega, rfl, fun k a hk => by omega, M0.out, B0.out⟩
  case round =>
    obtain ⟨j, hj, rfl, hgood, hset, hb⟩ := hrel
    have GD := Lib.hid hgood
    have ST := Lib.hid hset
    have BR := Lib.hid hb
    clear hgood hset hb
    by_cases hlt : j < order.length
    · obtain ⟨a, ha⟩ : ∃ a, order[j]? = some a := ⟨_, List.getElem?_eq_getElem hlt⟩
      obtain ⟨b, off, rfl, hbz, hc⟩ := HO.out (by omega)
      obtain ⟨c0, c1⟩ := hc j a ha
      have z0 := (BR.out.cell (p := ⟨b, _, none⟩) hbz).trans c0
      have z1 := (BR.out.cell (p := ⟨b, _, none⟩) hbz).trans c1
      have hj0 : (0 : Int) ≤ j := by omega
      have hj1 : (j : Int) < order.length := by omega
      have FA := Lib.hid (HF.out a (List.mem_of_getElem? ha))
      have HA := Lib.hid ha
      clear hc c0 c1 ha
      obtain ⟨a0, a1⟩ := a
      simp only at z0 z1
      go_upto_region 5 with fail
      obtain ⟨W1, hW1⟩ : ∃ W1, W1 = wr.alloc (.cells #[.int .i64 a0, .int .i64 a1] 37) := ⟨_, rfl⟩
      have B1 : Hid (Below wr.heap.size wr W1) := by rw [hW1]; exact balZ (Below.refl _ _) _
      have KA : Hid (W1.heap[wr.heap.size]? = some (opBox (a0, a1))) := by rw [hW1]; exact (heap_alloc wr _).1
      have BW1 := Lib.hid (BR.out.trans (B1.out.mono BR.out.size))
      have ST1 := Lib.hid (ST.out.keep B1.out)
      rw [← hW1]
      clear hW1 z0 z1
      obtain ⟨y0, y1⟩ := opBox_cells KA.out
      simp only at y0 y1
      go_wp2_with (first | (go_at_call 40; refine stopAt ?_))
      unfold StopAt
      refine (lexists_any W1 rb ts _ (H.out.below BW1.out).at_ H.out.fit a0 a1).mono ?_
      rintro e w1 ⟨rfl, hb1⟩
      have BW2 := Lib.hid (BW1.out.trans (hb1.mono BW1.out.size))
      have ST2 := Lib.hid (ST1.out.keep hb1)
      have KA2 := Lib.hid (opBox_kept KA.out hb1)
      clear hb1 y0 y1
      by_cases hex : ExP (lens ts) (a0, a1)
      case neg =>
        rw [decide_eq_false hex]
        have R := Lib.hid (mem_bad1 HA.out (Or.inl (Classical.byContradiction fun hw => hex (H.out.proper.ex hw))))
        clear hex
        go_wp2_with fail
        go_ret
        exact ⟨ret_bool R.out.symm, BW2.out⟩
      rw [decide_eq_true hex]
      obtain ⟨t, i, tt, o, hta, ht, hoo, _⟩ := exP_get hex
      simp only [Prod.mk.injEq] at hta
      obtain ⟨rfl, rfl⟩ := hta
      have HT := Lib.hid ht
      have hil := (List.getElem?_eq_some_iff.1 hoo).1
      clear hex ht hoo
      have SPC := Lib.hid (fun W (hW : Below w.heap.size w W) => lspan_any W rb ts _ (H.out.below hW).at_ H.out.fit t i tt HT.out hil)
      have RF := Lib.hid (span_refused l ((t : Int), (i : Int)))
      have RI := Lib.hid (show (spanP l ((t : Int), (i : Int))).inv = whenP l ((t : Int), (i : Int)) false from rfl)
      generalize hs : spanP l ((t : Int), (i : Int)) = s at *
      clear hs
      obtain ⟨si, sr, ⟨e, f, v, k, c, r, x, y⟩⟩ := s
      simp only [SpD.val] at SPC
      have FS := run_field_span si sr e f v k c r x y
      obtain ⟨y0, y1⟩ := opBox_cells KA2.out
      simp only at y0 y1
      go_wp2_with (first | (go_at_call 23; refine stopAt ?_))
      unfold StopAt
      refine (SPC.out _ BW2.out).mono ?_
      rintro e2 w2 ⟨rfl, hb2⟩
      have BW3 := Lib.hid (BW2.out.trans (hb2.mono BW2.out.size))
      have ST3 := Lib.hid (ST2.out.keep hb2)
      have KA3 := Lib.hid (opBox_kept KA2.out hb2)
      clear hb2 y0 y1
      obtain ⟨y0, y1⟩ := opBox_cells KA3.out
      simp only at y0 y1
      by_cases hsi : si = -1
      case pos =>
        subst hsi
        have R := Lib.hid (mem_bad1 HA.out (Or.inl RI.out.symm))
        go_wp2_with fail
        go_ret
        exact ⟨ret_bool R.out.symm, BW3.out⟩
      have hsib : (si == -1) = false := by simpa using hsi
      go_wp2_with (first | (go_at_call 23; refine stopAt ?_))
      unfold StopAt
      refine (SPC.out _ BW3.out).mono ?_
      rintro e3 w3 ⟨rfl, hb3⟩
      have BW4 := Lib.hid (BW3.out.trans (hb3.mono BW3.out.size))
      have ST4 := Lib.hid (ST3.out.keep hb3)
      have KA4 := Lib.hid (opBox_kept KA3.out hb3)
      clear hb3 y0 y1 FS
      go_wp2_with (first | (go_at_call 33; refine stopAt ?_))
      unfold StopAt
      refine (lsref_any w3 ⟨si, sr, ⟨e, f, v, k, c, r, x, y⟩⟩).mono ?_
      rintro e4 w4 ⟨rfl, hb4⟩
      have BW5 := Lib.hid (BW4.out.trans (hb4.mono BW4.out.size))
      have ST5 := Lib.hid (ST4.out.keep hb4)
      have KA5 := Lib.hid (opBox_kept KA4.out hb4)
      clear hb4
      rw [RF.out]
      obtain ⟨y0, y1⟩ := opBox_cells KA5.out
      simp only at y0 y1
      cases hr : refusedP l ((t : Int), (i : Int)) with
      | true =>
        have R := Lib.hid (mem_bad1 HA.out (Or.inr (Or.inl hr)))
        clear hr
        go_wp2_with fail
        go_ret
        exact ⟨ret_bool R.out.symm, BW5.out⟩
      | false =>
        have HR := Lib.hid hr
        clear hr
        have LK := ST5.out.look ((t : Int), (i : Int)) FA.out
        simp only at LK
        by_cases hm : ((t : Int), (i : Int)) ∈ order.take j
        · rw [decide_eq_true hm] at LK
          have R := Lib.hid (mem_bad1 (l := l) HA.out (Or.inr (Or.inr hm)))
          clear hm
          go_wp2_with fail
          go_ret
          exact ⟨ret_bool R.out.symm, BW5.out⟩
        · rw [decide_eq_false hm] at LK
          obtain ⟨w6, hrun, hs6, ht6⟩ := ST5.out.add ((t : Int), (i : Int)) FA.out hm
          simp only at hrun
          have RR : Hid (CoRel w l order (.int .i64 ((j : Int) + 1)) w6) := by
            refine ⟨j + 1, by omega, by go_num, fun k a hk ha => ?_, ?_, turned_belowZ BW5.out ht6 (Nat.le_refl _)⟩
            · by_cases hkj : k = j
              · subst hkj
                rw [HA.out] at ha
                obtain rfl := Option.some.inj ha
                exact ⟨by rw [← RI.out]; exact hsi, HR.out, hm⟩
              · exact GD.out k a (by omega) ha
            · rw [List.take_add_one, HA.out]
              exact hs6
          clear hm hs6 ht6
          go_wp2_with fail
          go_roundw
          case rel => exact RR.out
          case measure => simp [intOf]; omega
    · have hje : j = order.length := by omega
      subst hje
      rw [List.take_length] at ST
      have z1 := (BR.out.cell (p := ⟨rb, 1, none⟩) hrl).trans R1.out
      go_wp2_with fail
      clear z1
      go_loopw [49] (fun i wr => CoOut w ts l order i wr) (fun i _ => ts.length - (intOf i).toNat)
      case atStart => exact ⟨0, by omega, rfl, fun t i tt _ _ h => by omega, ST.out, BR.out⟩
      case round =>
        obtain ⟨T, hj, rfl, hall, hset, hb⟩ := hrel
        have AL := Lib.hid hall
        have ST := Lib.hid hset
        have BR := Lib.hid hb
        clear hall hset hb
        by_cases hlt : T < ts.length
        · obtain ⟨tt, htt⟩ : ∃ tt, ts[T]? = some tt := ⟨_, List.getElem?_eq_getElem hlt⟩
          obtain ⟨b, off, rfl, hbz, hc⟩ := H3.out (by omega)
          obtain ⟨u, cu, k1, k2⟩ := hc T tt htt
          have z1 := (BR.out.cell (p := ⟨b, _, none⟩) hbz).trans k1
          have K2 := Lib.hid k2
          have hT0 : (0 : Int) ≤ T := by omega
          have hT1 : (T : Int) < ts.length := by omega
          have htl := FT.out tt (List.mem_of_getElem? htt)
          have HT := Lib.hid htt
          clear htt hc k1 k2
          go_wp2_with fail
          clear z1
          go_loopw [56] (fun i wr => CoIn w ts l order T tt.length i wr) (fun i _ => tt.length - (intOf i).toNat)
          case atStart => exact ⟨0, by omega, rfl, AL.out, ST.out, BR.out⟩
          case round =>
            obtain ⟨I, hI, rfl, hall2, hset2, hb2⟩ := hrel
            have AI := Lib.hid hall2
            have SI := Lib.hid hset2
            have BI := Lib.hid hb2
            clear hall2 hset2 hb2
            by_cases hlt2 : I < tt.length
            · obtain ⟨b2, off2, rfl, hb2z, hc2⟩ := K2.out (by omega)
              have SP := Lib.hid (show ∀ j v, (spanP l ((T : Int), (I : Int))).cells[j]? = some v → _ from hc2 I hlt2)
              have RF := Lib.hid (span_refused l ((T : Int), (I : Int)))
              have RI := Lib.hid (show (spanP l ((T : Int), (I : Int))).ret = whenP l ((T : Int), (I : Int)) true from rfl)
              generalize hs : spanP l ((T : Int), (I : Int)) = s at *
              obtain ⟨q0, q1, q2, q3, q4, q5, q6, q7, q8, q9⟩ := span_at (w := wr) (b := b2) (off := off2) (i := I) (s := s) fun j v hj => (BI.out.cell (p := ⟨b2, _, none⟩) hb2z).trans (SP.out j v hj)
              have hI0 : (0 : Int) ≤ I := by omega
              have hI1 : (I : Int) < tt.length := by omega
              clear hs hc2
              obtain ⟨si, sr, ⟨e, f, v, k, c, r, x, y⟩⟩ := s
              simp only at q0 q1 q2 q3 q4 q5 q6 q7 q8 q9
              go_upto_region 15 with fail
              obtain ⟨W1, hW1⟩ : ∃ W1, W1 = wr.alloc (.cells #[.int .i64 si, .int .i64 sr, .int .i64 e, .bool f, .int .u64 v, .string k, .int .i64 c, .int .i64 r, .int .i64 x, .bool y] 63) := ⟨_, rfl⟩
              have B1 : Hid (Below wr.heap.size wr W1) := by rw [hW1]; exact balZ (Below.refl _ _) _
              have KS : Hid (W1.heap[wr.heap.size]? = some (.cells #[.int .i64 si, .int .i64 sr, .int .i64 e, .bool f, .int .u64 v, .string k, .int .i64 c, .int .i64 r, .int .i64 x, .bool y] 63 (0, 0))) := by rw [hW1]; exact (heap_alloc wr _).1
              have BW1 := Lib.hid (BI.out.trans (B1.out.mono BI.out.size))
              have ST1 := Lib.hid (SI.out.keep B1.out)
              rw [← hW1]
              clear hW1 q0 q1 q2 q3 q4 q5 q6 q7 q8 q9
              obtain ⟨q0, q1, q2, q3, q4, q5, q6, q7, q8, q9⟩ := sp_cells KS.out
              have TF : Hid (OpFit ((T : Int), (I : Int))) := by
                refine ⟨⟨?_, ?_⟩, ?_, ?_⟩ <;> (show (_ : Int) ≤ _; simp only; omega)
              have NX : Hid ((whenP l ((T : Int), (I : Int)) true ≠ -1 → refusedP l ((T : Int), (I : Int)) = false → ((T : Int), (I : Int)) ∈ order) → HasTo ts l order T (I + 1)) := fun hh t i tt' ht hi hlt' => by
                by_cases hti : t = T ∧ i = I
                · obtain ⟨rfl, rfl⟩ := hti; exact hh
                · exact AI.out t i tt' ht hi (by omega)
              by_cases hsr : sr = -1
              · have NY := Lib.hid (NX.out fun hw => absurd (RI.out.symm.trans hsr) hw)
                subst hsr
                clear q2 q3 q4 q5 q6 q7 q8 q9
                go_wp2_with fail
                go_roundw
                case rel => exact ⟨I + 1, by omega, by go_num, NY.out, ST1.out, BW1.out⟩
                case measure => simp [intOf]; omega
              have hsrb : (sr == -1) = false := by simpa using hsr
              have hsrc : (sr != -1) = true := by simpa using hsr
              go_wp2_with (first | (go_at_call 33; refine stopAt ?_))
              unfold StopAt
              refine (lsref_any W1 ⟨si, sr, ⟨e, f, v, k, c, r, x, y⟩⟩).mono ?_
              rintro e2 w2 ⟨rfl, hb2⟩
              have BW2 := Lib.hid (BW1.out.trans (hb2.mono BW1.out.size))
              have ST2 := Lib.hid (ST1.out.keep hb2)
              clear hb2 q0 q1 q2 q3 q4 q5 q6 q7 q8 q9
              rw [RF.out]
              cases hr : refusedP l ((T : Int), (I : Int)) with
              | true =>
                have NY := Lib.hid (NX.out fun _ h => by rw [hr] at h; simp at h)
                clear hr
                go_wp2_with fail
                go_roundw
                case rel => exact ⟨I + 1, by omega, by go_num, NY.out, ST2.out, BW2.out⟩
                case measure => simp [intOf]; omega
              | false =>
                have HR := Lib.hid hr
                clear hr
                have LK := ST2.out.look ((T : Int), (I : Int)) TF.out
                simp only at LK
                by_cases hm : ((T : Int), (I : Int)) ∈ order
                · rw [decide_eq_true hm] at LK
                  have NY := Lib.hid (NX.out fun _ _ => hm)
                  clear hm
                  go_wp2_with fail
                  go_roundw
                  case rel => exact ⟨I + 1, by omega, by go_num, NY.out, ST2.out, BW2.out⟩
                  case measure => simp [intOf]; omega
                · rw [decide_eq_false hm] at LK
                  have R := Lib.hid (mem_bad2 H.out.proper (by rw [← RI.out]; exact hsr) HR.out hm)
                  clear hm
                  go_wp2_with fail
                  go_ret
                  exact ⟨ret_bool R.out.symm, BW2.out⟩
            · have AN : Hid (HasTo ts l order (T + 1) 0) := fun t i tt' ht hi hlt' => by
                refine AI.out t i tt' ht hi ?_
                by_cases htT : t = T
                · subst htT
                  rw [HT.out] at ht
                  obtain rfl := Option.some.inj ht
                  omega
                · omega
              go_wp2_with fail
              go_roundw
              case rel => exact ⟨T + 1, by omega, by go_num, AN.out, SI.out, BI.out⟩
              case measure => simp [intOf]; omega
        · have R : Hid (membersP l order = true) := mem_good (H.out.proper) GD.out fun a hex hw hr => by
            obtain ⟨t, i, tt, o, rfl, ht, ho, _⟩ := exP_get hex
            have h1 := (List.getElem?_eq_some_iff.1 ht).1
            exact AL.out t i tt ht (List.getElem?_eq_some_iff.1 ho).1 (by omega) hw hr
          go_wp2_with fail
          go_ret
          exact ⟨ret_bool R.out.symm, BR.out⟩
end Go.Proofs.YtbmoehndnbbhcaaGreatDoor
namespace Go.Proofs.YtbmoehndnbbhcaaGreatDoor
set_option linter.unusedVariables false
set_option linter.unusedSimpArgs false
open Go Go.RowKit Go.MapKept
/-- the pairs that have been compared -/
def OrdTo (l : List EvD) (order : List OpP) (T I : Nat) : Prop := ∀ (i k : Nat) (x y : OpP), order[i]? = some x → order[k]? = some y → k < i → (k < T ∨ (k = T ∧ i < I)) → beforeP l x y = false
def OrRel (w : World) (l : List EvD) (order : List OpP) (i : Value) (wr : World) : Prop := ∃ j : Nat, j ≤ order.length ∧ i = .int .i64 j ∧ OrdTo l order j 0 ∧ Below w.heap.size w wr
def OrIn (w : World) (l : List EvD) (order : List OpP) (T yb : Nat) (y : OpP) (i : Value) (wr : World) : Prop := ∃ j : Nat, T + 1 + j ≤ order.length ∧ i = .int .i64 j ∧ OrdTo l order T (T + 1 + j) ∧ wr.heap[yb]? = some (opBox y) ∧ Below w.heap.size w wr
theorem before_span (l : List EvD) (x y : OpP) : beforeP l x y = (decide ((spanP l x).ret ≠ -1) && decide ((spanP l x).ret < (spanP l y).inv)) := by
  have := when_lo l x true
  unfold beforeP spanP
  rw [Bool.eq_iff_iff]
  simp only [Bool.and_eq_true, decide_eq_true_eq]
  omega
theorem ordTo_next {l : List EvD} {order : List OpP} {T : Nat} (h : OrdTo l order T order.length) : OrdTo l order (T + 1) 0 := fun i k x y hx hy hk hh => by
  have := (List.getElem?_eq_some_iff.1 hx).1
  refine h i k x y hx hy hk ?_
  by_cases hkT : k = T
  · exact Or.inr ⟨hkT, this⟩
  · exact Or.inl (by omega)
theorem ordTo_start {l : List EvD} {order : List OpP} {T : Nat} (h : OrdTo l order T 0) : OrdTo l order T (T + 1) := fun i k x y hx hy hk hh => h i k x y hx hy hk (by omega)
open Classical in
noncomputable def orderedB (l : List EvD) (order : List OpP) : Bool := decide (OrderedP l order)
open Classical in
theorem ord_bad {l : List EvD} {order : List OpP} {i k : Nat} {x y : OpP} (hx : order[i]? = some x) (hy : order[k]? = some y) (hk : k < i) (hb : beforeP l x y = true) : orderedB l order = false := by
  unfold orderedB
  rw [decide_eq_false_iff_not]
  exact fun h => by rw [h i k x y hx hy hk] at hb; simp at hb
open Classical in
theorem ord_good {l : List EvD} {order : List OpP} (h : OrdTo l order order.length 0) : orderedB l order = true := by
  unfold orderedB
  rw [decide_eq_true_eq]
  exact fun i k x y hx hy hk => h i k x y hx hy hk (Or.inl (List.getElem?_eq_some_iff.1 hy).1)
set_option maxRecDepth 100000 in
set_option maxHeartbeats 4000000 in
theorem lordered_any (w : World) (rb : Nat) (ts : List (List OpD)) (l : List EvD) (h : RecOk w rb ts l) (O : Option Addr) (co : Nat) (order : List OpP) (ho : OrdAt w O order) (hex : ∀ a ∈ order, ExP (lens ts) a) (hn : order.length ≤ 1048576) (hcap : order.length ≤ co) (hco : co ≤ 4611686018427387904) :
    Calls Tryz.prog 20 #[.pointer (some ⟨rb, 0, none⟩), .slice O order.length co] w fun e w' => e = .returned (.bool (orderedB l order)) ∧ Below w.heap.size w w' := by
  have H := Lib.hid h
  have HO := Lib.hid ho
  have HX := Lib.hid hex
  clear h ho hex
  go_enter Tryz.func20, Tryz.ntmps20
  go_wp2_with fail
  go_loopw [12] (fun i wr => OrRel w l order i wr) (fun i _ => order.length - (intOf i).toNat)
  case atStart => exact ⟨0, by omega, rfl, fun i k x y _ _ _ h => by omega, Below.refl _ _⟩
  case round =>
    obtain ⟨T, hT, rfl, hall, hb⟩ := hrel
    have AL := Lib.hid hall
    have BR := Lib.hid hb
    clear hall hb
    by_cases hlt : T < order.length
    · obtain ⟨y, hy⟩ : ∃ y, order[T]? = some y := ⟨_, List.getElem?_eq_getElem hlt⟩
      obtain ⟨b, off, rfl, hbz, hc⟩ := HO.out (by omega)
      obtain ⟨c0, c1⟩ := hc T y hy
      have z0 := (BR.out.cell (p := ⟨b, _, none⟩) hbz).trans c0
      have z1 := (BR.out.cell (p := ⟨b, _, none⟩) hbz).trans c1
      have hT0 : (0 : Int) ≤ T := by omega
      have hT1 : (T : Int) < order.length := by omega
      have HY := Lib.hid hy
      have HC := Lib.hid hc
      clear hc c0 c1 hy
      obtain ⟨y0, y1⟩ := y
      simp only at z0 z1
      by_cases hcj : co = T + 1
      · subst hcj
        have KB : Hid ((wr.alloc (.cells #[.int .i64 y0, .int .i64 y1] 37)).heap[wr.heap.size]? = some (opBox (y0, y1))) := (heap_alloc wr _).1
        have BW0 := Lib.hid (BR.out.trans ((balZ (Below.refl wr.heap.size wr) (.cells #[.int .i64 y0, .int .i64 y1] 37)).mono BR.out.size))
        have hlen : order.length = T + 1 := by omega
        have NN := Lib.hid (ordTo_next (l := l) (order := order) (T := T) (by rw [hlen]; exact ordTo_start AL.out))
        go_wp2_with fail
        go_loopw [22] (fun i W => i = .int .i64 0 ∧ Below w.heap.size w W) (fun _ _ => 0)
        case atStart => exact ⟨rfl, BW0.out⟩
        case round =>
          obtain ⟨rfl, hbb⟩ := hrel
          have BB := Lib.hid hbb
          clear hbb
          go_wp2_with fail
          go_roundw
          case rel => exact ⟨T + 1, by omega, by go_num, NN.out, BB.out⟩
          case measure => simp [intOf]; omega
      · obtain ⟨m, rfl⟩ : ∃ m, co = T + m + 2 := ⟨co - T - 2, by omega⟩
        have KB : Hid ((wr.alloc (.cells #[.int .i64 y0, .int .i64 y1] 37)).heap[wr.heap.size]? = some (opBox (y0, y1))) := (heap_alloc wr _).1
        have BW0 := Lib.hid (BR.out.trans ((balZ (Below.refl wr.heap.size wr) (.cells #[.int .i64 y0, .int .i64 y1] 37)).mono BR.out.size))
        have hyb : w.heap.size ≤ wr.heap.size := BR.out.size
        go_wp2_with fail
        clear z0 z1
        generalize hR : wr.heap.size = yb at *
        clear hR
        go_loopw [22] (fun i W => OrIn w l order T yb (y0, y1) i W) (fun i _ => order.length - (intOf i).toNat)
        case atStart => exact ⟨0, by omega, rfl, ordTo_start AL.out, KB.out, BW0.out⟩
        case round =>
          obtain ⟨I, hI, rfl, hall2, hkb, hb2⟩ := hrel
          have AI := Lib.hid hall2
          have BI := Lib.hid hb2
          have KI := Lib.hid hkb
          clear hall2 hkb hb2
          by_cases hlt2 : T + 1 + I < order.length
          · obtain ⟨a, ha⟩ : ∃ a, order[T + 1 + I]? = some a := ⟨_, List.getElem?_eq_getElem hlt2⟩
            obtain ⟨c0, c1⟩ := HC.out _ a ha
            have e0 : off + (T + 1) * 2 + I * 2 = off + (T + 1 + I) * 2 := by omega
            have z0 := (BI.out.cell (p := ⟨b, _, none⟩) hbz).trans c0
            have z1 := (BI.out.cell (p := ⟨b, _, none⟩) hbz).trans c1
            rw [← e0] at z0 z1
            have hI0 : (0 : Int) ≤ I := by omega
            have hI1 : (I : Int) < (order.length - (T + 1) : Nat) := by omega
            have HA := Lib.hid ha
            have XA := Lib.hid (exP_get (HX.out a (List.mem_of_getElem? ha)))
            have XY := Lib.hid (exP_get (HX.out (y0, y1) (List.mem_of_getElem? HY.out)))
            clear ha c0 c1 e0
            obtain ⟨ta, ia, tta, oa, rfl, hta, hoa, _⟩ := XA.out
            obtain ⟨ty, iy, tty, oy, hyy, hty, hoy, _⟩ := XY.out
            simp only [Prod.mk.injEq] at hyy
            obtain ⟨rfl, rfl⟩ := hyy
            have HTA := Lib.hid (And.intro hta (List.getElem?_eq_some_iff.1 hoa).1)
            have HTY := Lib.hid (And.intro hty (List.getElem?_eq_some_iff.1 hoy).1)
            have BF := Lib.hid (before_span l ((ta : Int), (ia : Int)) ((ty : Int), (iy : Int)))
            clear hta hoa hty hoy XA XY
            simp only at z0 z1
            go_upto_region 7 with fail
            obtain ⟨W1, hW1⟩ : ∃ W1, W1 = wr.alloc (.cells #[.int .i64 ta, .int .i64 ia] 37) := ⟨_, rfl⟩
            have B1 : Hid (Below wr.heap.size wr W1) := by rw [hW1]; exact balZ (Below.refl _ _) _
            have KA : Hid (W1.heap[wr.heap.size]? = some (opBox (ta, ia))) := by rw [hW1]; exact (heap_alloc wr _).1
            have BW1 := Lib.hid (BI.out.trans (B1.out.mono BI.out.size))
            have KY1 := Lib.hid (opBox_kept KI.out B1.out)
            rw [← hW1]
            clear hW1 z0 z1
            obtain ⟨x0, x1⟩ := opBox_cells KA.out
            simp only at x0 x1
            go_wp2_with (first | (go_at_call 23; refine stopAt ?_))
            unfold StopAt
            refine (lspan_any W1 rb ts _ (H.out.below BW1.out).at_ H.out.fit ta ia tta HTA.out.1 HTA.out.2).mono ?_
            rintro e2 w2 ⟨rfl, hb2⟩
            generalize hsx : spanP l ((ta : Int), (ia : Int)) = sx at *
            obtain ⟨si, sr, ⟨e, f, v, k, c, r, x, y⟩⟩ := sx
            simp only [SpD.val]
            obtain ⟨W4, hW4⟩ : ∃ W4, W4 = w2.alloc (.cells #[.int .i64 si, .int .i64 sr, .int .i64 e, .bool f, .int .u64 v, .string k, .int .i64 c, .int .i64 r, .int .i64 x, .bool y] 63) := ⟨_, rfl⟩
            have B4 : Hid (Below W1.heap.size W1 W4) := by rw [hW4]; exact hb2.alloc hb2.size _
            have KS4 : Hid (W4.heap[w2.heap.size]? = some (.cells #[.int .i64 si, .int .i64 sr, .int .i64 e, .bool f, .int .u64 v, .string k, .int .i64 c, .int .i64 r, .int .i64 x, .bool y] 63 (0, 0))) := by rw [hW4]; exact (heap_alloc w2 _).1
            have BW4 := Lib.hid (BW1.out.trans (B4.out.mono BW1.out.size))
            have KY4 := Lib.hid (opBox_kept KY1.out B4.out)
            clear hb2 x0 x1 hsx
            go_upto_region 8 with fail
            rw [← hW4]
            clear hW4
            have KC : Hid (∀ W, Below W4.heap.size W4 W → (W.cell? ⟨yb, 0, none⟩ = some (.int .i64 ty) ∧ W.cell? ⟨yb, 1, none⟩ = some (.int .i64 iy)) ∧ W.cell? ⟨w2.heap.size, 1, none⟩ = some (.int .i64 sr)) :=
              fun W hW => ⟨opBox_cells (opBox_kept KY4.out hW), blk_cell (kept_block KS4.out hW) 1⟩
            have SA : Hid (∀ W, Below W4.heap.size W4 W → Calls Tryz.prog 23 #[.pointer (some ⟨rb, 0, none⟩), .agg #[.int .i64 ty, .int .i64 iy]] W fun e w' => e = .returned (spanP l ((ty : Int), (iy : Int))).val ∧ Below W4.heap.size W4 w') :=
              fun W hW => (lspan_any W rb ts _ (H.out.below (BW4.out.trans (hW.mono BW4.out.size))).at_ H.out.fit ty iy tty HTY.out.1 HTY.out.2).mono fun e w' p => ⟨p.1, hW.trans (p.2.mono hW.size)⟩
            have BD : Hid (Below W4.heap.size W4 W4.drew) := (Below.refl _ _).drew
            generalize hsa : spanP l ((ty : Int), (iy : Int)) = sa at *
            obtain ⟨ai, ar, ⟨ae, af, av, ak, ac, aR, ax, ay⟩⟩ := sa
            simp only [SpD.val] at SA
            have FS := run_field_span ai ar ae af av ak ac aR ax ay
            have BG := Lib.hid (show beforeP l ((ta : Int), (ia : Int)) ((ty : Int), (iy : Int)) = (decide (sr ≠ -1) && decide (sr < ai)) from BF.out)
            clear hsa BF
            have NY : Hid (beforeP l ((ta : Int), (ia : Int)) ((ty : Int), (iy : Int)) = false → OrdTo l order T (T + 1 + (I + 1))) := fun hh i k x y hx hy hk hlt' => by
              by_cases hki : k = T ∧ i = T + 1 + I
              · obtain ⟨rfl, rfl⟩ := hki
                rw [HA.out] at hx
                rw [HY.out] at hy
                obtain rfl := Option.some.inj hx
                obtain rfl := Option.some.inj hy
                exact hh
              · exact AI.out i k x y hx hy hk (by omega)
            by_cases r1 : sr = -1
            · subst r1
              have NZ := Lib.hid (NY.out (by rw [BG.out]; simp))
              refine wp_region_class (C := fun W => Below W4.heap.size W4 W) (by kernel_rfl) (by kernel_rfl) BD.out ?_
              repeat (first | go_big_quiet_step (fail) | (refine' wpQuiet_take (by rfl) (fun W hW => ?_) ?_; rotate_left; (obtain ⟨⟨x0, x1⟩, x2⟩ := KC.out W hW); go_simp; (first | rfl | (with_reducible exact SA.out W hW)); (simp only [Act.put, List.setIfInBounds_toArray, List.set_cons_zero, List.set_cons_succ])) | ((refine wpQuiet_skip (by rfl) ?_); (simp only [Act.put, List.setIfInBounds_toArray, List.set_cons_zero, List.set_cons_succ])))
              refine wpQuiet_nil ?_
              intro w7 hb7
              have B7 := Lib.hid (BW4.out.trans (hb7.mono BW4.out.size))
              have K7 := Lib.hid (opBox_kept KY4.out hb7)
              clear hb7
              go_wp2_with fail
              go_roundw
              case rel => exact ⟨I + 1, by omega, by go_num, NZ.out, K7.out, B7.out⟩
              case measure => simp [intOf]; omega
            have r1b : (sr == -1) = false := by simpa using r1
            have r1c : (sr != -1) = true := by simpa using r1
            cases r3 : decide (sr < ai) with
            | true =>
              have R := Lib.hid (ord_bad HA.out HY.out (by omega) (by rw [BG.out, r3]; simp [r1]))
              refine wp_region_class (C := fun W => Below W4.heap.size W4 W) (by kernel_rfl) (by kernel_rfl) BD.out ?_
              repeat (first | go_big_quiet_step (fail) | (refine' wpQuiet_take (by rfl) (fun W hW => ?_) ?_; rotate_left; (obtain ⟨⟨x0, x1⟩, x2⟩ := KC.out W hW); go_simp; (first | rfl | (with_reducible exact SA.out W hW)); (simp only [Act.put, List.setIfInBounds_toArray, List.set_cons_zero, List.set_cons_succ])) | ((refine wpQuiet_skip (by rfl) ?_); (simp only [Act.put, List.setIfInBounds_toArray, List.set_cons_zero, List.set_cons_succ])))
              refine wpQuiet_nil ?_
              intro w7 hb7
              have B7 := Lib.hid (BW4.out.trans (hb7.mono BW4.out.size))
              clear hb7
              go_wp2_with fail
              go_ret
              exact ⟨ret_bool R.out.symm, B7.out⟩
            | false =>
              have NZ := Lib.hid (NY.out (by rw [BG.out, r3]; simp))
              refine wp_region_class (C := fun W => Below W4.heap.size W4 W) (by kernel_rfl) (by kernel_rfl) BD.out ?_
              repeat (first | go_big_quiet_step (fail) | (refine' wpQuiet_take (by rfl) (fun W hW => ?_) ?_; rotate_left; (obtain ⟨⟨x0, x1⟩, x2⟩ := KC.out W hW); go_simp; (first | rfl | (with_reducible exact SA.out W hW)); (simp only [Act.put, List.setIfInBounds_toArray, List.set_cons_zero, List.set_cons_succ])) | ((refine wpQuiet_skip (by rfl) ?_); (simp only [Act.put, List.setIfInBounds_toArray, List.set_cons_zero, List.set_cons_succ])))
              refine wpQuiet_nil ?_
              intro w7 hb7
              have B7 := Lib.hid (BW4.out.trans (hb7.mono BW4.out.size))
              have K7 := Lib.hid (opBox_kept KY4.out hb7)
              clear hb7
              go_wp2_with fail
              go_roundw
              case rel => exact ⟨I + 1, by omega, by go_num, NZ.out, K7.out, B7.out⟩
              case measure => simp [intOf]; omega
          · have hE : T + 1 + I = order.length := by omega
            have NN := Lib.hid (ordTo_next (l := l) (order := order) (T := T) (hE ▸ AI.out))
            clear hE
            have hd : ¬ (I : Int) < (order.length - (T + 1) : Nat) := by omega
            go_wp2_with fail
            go_roundw
            case rel => exact ⟨T + 1, by omega, by go_num, NN.out, BI.out⟩
            case measure => simp [intOf]; omega
    · have hje : T = order.length := by omega
      subst hje
      have R := Lib.hid (ord_good AL.out)
      go_wp2_with fail
      go_ret
      exact ⟨ret_bool R.out.symm, BR.out⟩
end Go.Proofs.YtbmoehndnbbhcaaGreatDoor
