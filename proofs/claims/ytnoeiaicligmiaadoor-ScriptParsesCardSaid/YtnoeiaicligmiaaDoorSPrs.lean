/- The walk of the program's Parse. -/
import Derived.Test.YtnoeiaicligmiaaDoorSPrsP
namespace Go.Proofs.YtnoeiaicligmiaaDoor
set_option linter.unusedVariables false
set_option linter.unusedSimpArgs false
open Go Go.RowKit
def ParsePost (w : World) (l : List UInt8) (e : Ending) (w' : World) : Prop :=
  ∃ A c D d, e = .returned (.tuple #[scrV (parseS l).1.mask A (parseS l).1.threads.length c D (parseS l).1.picks.length d, .int .i64 (parseS l).2.1, .int .i64 (parseS l).2.2]) ∧ ScrAt w' A D (parseS l).1 ∧ Below w.heap.size w w'
theorem scrAt_nil (w : World) : ScrAt w none none ScrD.nil := ⟨fun h => by simp [ScrD.nil] at h, fun h => by simp [ScrD.nil] at h, by simp [ScrD.nil], by simp [ScrD.nil], by simp [ScrD.nil]⟩
theorem ParsePost.nil {w w' : World} {l : List UInt8} {n e : Int} (h : parseS l = (ScrD.nil, n, e)) (hb : Below w.heap.size w w') : ParsePost w l (.returned (.tuple #[.agg #[.int .u64 0, .slice none 0 0, .slice none 0 0], .int .i64 n, .int .i64 e])) w' :=
  ⟨none, 0, none, 0, by rw [h]; rfl, by rw [h]; exact scrAt_nil w', hb⟩
theorem ParsePost.ok {w w' : World} {l : List UInt8} {s : ScrD} {A D : Option Addr} {c d : Nat} (h : parseS l = (s, 0, 0)) (hs : ScrAt w' A D s) (hb : Below w.heap.size w w') : ParsePost w l (.returned (.tuple #[.agg #[.int .u64 s.mask, .slice A s.threads.length c, .slice D s.picks.length d], .int .i64 0, .int .i64 0])) w' :=
  ⟨A, c, D, d, by rw [h]; rfl, by rw [h]; exact hs, hb⟩
def boxO : Obj := .cells #[.int .u64 0, .slice none 0 0, .slice none 0 0] 32
def PrsRel (w : World) (l : List UInt8) (i v : Value) (wr : World) : Prop :=
  ∃ (n : Nat) (r : List UInt8) (st : PS), i = .int .i64 n ∧ v = .string ⟨r.toArray⟩ ∧ At l r n st ∧ Par (w.heap.size + 1) (w.alloc boxO) wr (w.heap.size + 1) st
def strOf : Value → Nat
  | .string s => s.size
  | _ => 0
theorem par_start (w : World) : Par (w.heap.size + 1) (w.alloc boxO) ((w.alloc boxO).alloc (.cells #[.int .u64 0, .slice none 0 0, .slice none 0 0, .bool false, .bool false] 66)) (w.heap.size + 1) st0 :=
  ⟨.slice none 0 0, .slice none 0 0, [], Nat.le_refl _, by have := (MapKept.heap_alloc (w.alloc boxO) (.cells #[.int .u64 0, .slice none 0 0, .slice none 0 0, .bool false, .bool false] 66)).1; rw [show (w.alloc boxO).heap.size = w.heap.size + 1 by simp] at this; exact this,
    World.ownsRow_nil _ _ _ _, rfl, fun i u t hu => by simp at hu, fun i j u v b hu => by simp at hu, World.ownsRow_nil _ _ _ _, (Below.refl _ _).alloc (by simp) _, by simp⟩
theorem box_at {w wr : World} (h : Below (w.heap.size + 1) (w.alloc boxO) wr) : wr.heap[w.heap.size]? = some boxO := by
  rw [h.block _ (by omega)]
  exact (MapKept.heap_alloc w _).1
theorem out_below {w wr : World} (h : Below (w.heap.size + 1) (w.alloc boxO) wr) : Below w.heap.size w wr := ((Below.refl _ w).alloc (Nat.le_refl _) _).trans (h.mono (by omega))
theorem cell_lt {w : World} {b o : Nat} {v : Value} (h : w.cell? ⟨b, o, none⟩ = some v) : b < w.heap.size := by
  apply Nat.lt_of_not_le
  intro hge
  have : w.heap[b]? = none := Array.getElem?_eq_none hge
  simp [World.cell?, this] at h
theorem ParAt.over {B : Nat} {w0 w w' : World} {P : Nat} {st : PS} {vt vp : Value} {us : List Value} (h : ParAt B w0 w P st vt vp us) (hk : ∀ k, B ≤ k → k < w.heap.size → w'.heap[k]? = w.heap[k]?) (hz : w.heap.size ≤ w'.heap.size) : ParAt B w' w' P st vt vp us :=
  ⟨h.base, (hk P h.base h.lt).trans h.par, row_keep h.thr (fun g hg => hk g (row_kind h.thr hg).1 (row_lt h.thr hg)), h.hus,
    fun i u t hu ht => row_keep (h.ops i u t hu ht) (fun g hg => hk g (row_kind (h.ops i u t hu ht) hg).1 (row_lt (h.ops i u t hu ht) hg)), h.dist, row_keep h.pks (fun g hg => hk g (row_kind h.pks hg).1 (row_lt h.pks hg)), Below.refl _ _, Nat.le_trans h.size hz⟩
theorem ParAt.scr2 {B : Nat} {w0 w : World} {P : Nat} {st : PS} {A D : Option Addr} {n c p d : Nat} {us : List Value} (h : ParAt B w0 w P st (.slice A n c) (.slice D p d) us) (hs : Small 1048576 st) : ScrAt w A D st.scr := by
  obtain ⟨A', c', D', d', e1, e2, h3⟩ := h.scr hs
  simp only [Value.slice.injEq] at e1 e2
  obtain ⟨rfl, _, _⟩ := e1
  obtain ⟨rfl, _, _⟩ := e2
  exact h3
set_option maxHeartbeats 4000000 in
theorem parse_any (w : World) (m : Int) (hm : w.cell? ⟨1, 0, none⟩ = some (.int .i64 m)) (l : List UInt8) (hlen : l.length ≤ 4611686018427387904) :
    Calls Tryd.prog 17 #[.string ⟨l.toArray⟩] w (ParsePost w l) := by
  have hsz : (⟨l.toArray⟩ : ByteArray).size = l.length := by simp [ByteArray.size]
  by_cases hl : 1048576 < l.length
  · have T := Lib.hid (parse_long hl)
    have hd : (1048576 : Int) < ((⟨l.toArray⟩ : ByteArray).size : Int) := by rw [hsz]; omega
    have HZ := Lib.hid hsz
    clear hm hlen hsz
    go_enter Tryd.func17, Tryd.ntmps17
    go_wp2_with fail
    exact bodyPost_ret (v := .tuple #[.agg #[.int .u64 0, .slice none 0 0, .slice none 0 0], .int .i64 0, .int .i64 3]) (by simp [results, Tryd.results17, go_sem]) rfl (ParsePost.nil T.out ((Below.refl _ _).alloc (Nat.le_refl _) _))
  · have HL : l.length ≤ 1048576 := by omega
    have h1z : 1 < w.heap.size := cell_lt hm
    have hd : ¬ (1048576 : Int) < ((⟨l.toArray⟩ : ByteArray).size : Int) := by rw [hsz]; omega
    have HZ := Lib.hid hsz
    have HM := Lib.hid hm
    clear hm hlen hsz hl
    go_enter Tryd.func17, Tryd.ntmps17
    go_wp2_with fail
    go_loopw [6, 7] (fun i v wr => PrsRel w l i v wr) (fun _ v _ => strOf v)
    case atStart => exact ⟨0, l, st0, rfl, rfl, At.start l HL, par_start w⟩
    case round =>
      obtain ⟨n, r, st, rfl, rfl, hat, ⟨vt, vp, us, hp⟩⟩ := hrel
      clear hd
      have hmr : wr.cell? ⟨1, 0, none⟩ = some (.int .i64 m) := (hp.below.cell (p := ⟨1, 0, none⟩) (by show 1 < _; omega)).trans ((((Below.refl w.heap.size w).alloc (Nat.le_refl _) boxO).cell (p := ⟨1, 0, none⟩) h1z).trans HM.out)
      have hbx := box_at hp.below
      have HP := Lib.hid hp
      have HAT := Lib.hid hat
      have hrn := hat.1
      have HBX := Lib.hid hbx
      have z0 : wr.cell? ⟨w.heap.size, 0, none⟩ = some (.int .u64 0) := blk_cell hbx 0
      have z1 : wr.cell? ⟨w.heap.size, 1, none⟩ = some (.slice none 0 0) := blk_cell hbx 1
      have z2 : wr.cell? ⟨w.heap.size, 2, none⟩ = some (.slice none 0 0) := blk_cell hbx 2
      have g0 : wr.frozen? ⟨w.heap.size, 0, none⟩ = false := blk_frozen hbx 0
      have g1 : wr.frozen? ⟨w.heap.size, 1, none⟩ = false := blk_frozen hbx 1
      have g2 : wr.frozen? ⟨w.heap.size, 2, none⟩ = false := blk_frozen hbx 2
      by_cases hr : r = []
      · subst hr
        obtain ⟨scr, mk, dn⟩ := st
        have y4 : wr.cell? ⟨w.heap.size + 1, 4, none⟩ = some (.bool dn) := hp.cell 4
        cases dn with
        | false =>
          have T := Lib.hid (hat.open HL (by simp) (Or.inr rfl))
          clear hmr hat hp hbx
          go_wp2_with fail
          refine bodyPost_ret (v := .tuple #[.agg #[.int .u64 0, .slice none 0 0, .slice none 0 0], .int .i64 ((n : Int) + 1), .int .i64 4]) (by simp [results, Tryd.results17, go_sem, z0, z1, z2]) rfl (ParsePost.nil T.out ?_)
          exact (((out_below HP.out.below).setCell (p := ⟨w.heap.size, 0, none⟩) (by simp) _).setCell (p := ⟨w.heap.size, 1, none⟩) (by simp) _).setCell (p := ⟨w.heap.size, 2, none⟩) (by simp) _
        | true =>
          have hsm : Small 1048576 ⟨scr, mk, true⟩ := by
            obtain ⟨⟨a1, a2⟩, a3⟩ := hat.2.2.2.2
            exact ⟨⟨by omega, fun t ht => by have := a2 t ht; omega⟩, a3⟩
          have HSM := Lib.hid hsm
          obtain ⟨A, c, D, d, rfl, rfl, hscr⟩ := hp.scr hsm
          clear hsm
          simp only at hscr
          have y0 : wr.cell? ⟨w.heap.size + 1, 0, none⟩ = some (.int .u64 scr.mask) := hp.cell 0
          have y1 : wr.cell? ⟨w.heap.size + 1, 1, none⟩ = some (.slice A scr.threads.length c) := hp.cell 1
          have y2 : wr.cell? ⟨w.heap.size + 1, 2, none⟩ = some (.slice D scr.picks.length d) := hp.cell 2
          have CK := Lib.hid (check_any wr A D c d scr hscr)
          obtain ⟨k1, k2⟩ := hat.end
          have HS := Lib.hid hscr
          have HZ1 := Lib.hid HP.out.lt
          have HZ2 := Lib.hid (Nat.lt_of_succ_lt HP.out.lt)
          simp only [scrV] at CK
          rcases checkS_03 scr with hc | hc
          · have T := Lib.hid (parse_ok HL k1 k2 rfl hc)
            rw [hc] at CK
            clear hmr hat hp hbx hscr k1 k2 hc
            go_wp2_with fail
            refine CK.out.mono ?_
            rintro e w2 ⟨rfl, hb2⟩
            have B2 := Lib.hid hb2
            have v0 := (hb2.cell (p := ⟨w.heap.size + 1, 0, none⟩) HZ1.out).trans y0
            have v1 := (hb2.cell (p := ⟨w.heap.size + 1, 1, none⟩) HZ1.out).trans y1
            have v2 := (hb2.cell (p := ⟨w.heap.size + 1, 2, none⟩) HZ1.out).trans y2
            have x0 := (hb2.cell (p := ⟨w.heap.size, 0, none⟩) HZ2.out).trans z0
            have x1 := (hb2.cell (p := ⟨w.heap.size, 1, none⟩) HZ2.out).trans z1
            have x2 := (hb2.cell (p := ⟨w.heap.size, 2, none⟩) HZ2.out).trans z2
            have u0 := (hb2.frozen (p := ⟨w.heap.size, 0, none⟩) HZ2.out).trans g0
            have u1 := (hb2.frozen (p := ⟨w.heap.size, 1, none⟩) HZ2.out).trans g1
            have u2 := (hb2.frozen (p := ⟨w.heap.size, 2, none⟩) HZ2.out).trans g2
            clear hb2 y0 y1 y2 y4 z0 z1 z2 g0 g1 g2
            go_wp2_with fail
            refine bodyPost_ret (v := .tuple #[.agg #[.int .u64 scr.mask, .slice A scr.threads.length c, .slice D scr.picks.length d], .int .i64 0, .int .i64 0]) (by simp [results, Tryd.results17, go_sem, x0, x1, x2]) rfl (ParsePost.ok T.out ?_ ?_)
            · refine (HP.out.over (fun k hk1 hk2 => ?_) ?_).scr2 HSM.out
              · rw [Below.heap_setCell _ _ _ _ (by simp; omega), Below.heap_setCell _ _ _ _ (by simp; omega), Below.heap_setCell _ _ _ _ (by simp; omega)]
                exact B2.out.block k hk2
              · have := B2.out.size
                simp [World.setCell]
                omega
            · exact ((((out_below HP.out.below).trans (B2.out.mono (Nat.le_of_lt HZ2.out))).setCell (p := ⟨w.heap.size, 0, none⟩) (by simp) _).setCell (p := ⟨w.heap.size, 1, none⟩) (by simp) _).setCell (p := ⟨w.heap.size, 2, none⟩) (by simp) _
          · have T := Lib.hid (parse_lim HL k1 k2 rfl (by rw [hc]; decide))
            rw [hc] at CK
            clear hmr hat hp hbx hscr k1 k2 hc
            go_wp2_with fail
            refine CK.out.mono ?_
            rintro e w2 ⟨rfl, hb2⟩
            have B2 := Lib.hid hb2
            have x0 := (hb2.cell (p := ⟨w.heap.size, 0, none⟩) HZ2.out).trans z0
            have x1 := (hb2.cell (p := ⟨w.heap.size, 1, none⟩) HZ2.out).trans z1
            have x2 := (hb2.cell (p := ⟨w.heap.size, 2, none⟩) HZ2.out).trans z2
            have u0 := (hb2.frozen (p := ⟨w.heap.size, 0, none⟩) HZ2.out).trans g0
            have u1 := (hb2.frozen (p := ⟨w.heap.size, 1, none⟩) HZ2.out).trans g1
            have u2 := (hb2.frozen (p := ⟨w.heap.size, 2, none⟩) HZ2.out).trans g2
            clear hb2 y0 y1 y2 y4 z0 z1 z2 g0 g1 g2
            go_wp2_with fail
            refine bodyPost_ret (v := .tuple #[.agg #[.int .u64 0, .slice none 0 0, .slice none 0 0], .int .i64 0, .int .i64 3]) (by simp [results, Tryd.results17, go_sem, x0, x1, x2]) rfl (ParsePost.nil T.out ?_)
            exact ((((out_below HP.out.below).trans (B2.out.mono (Nat.le_of_lt HZ2.out))).setCell (p := ⟨w.heap.size, 0, none⟩) (by simp) _).setCell (p := ⟨w.heap.size, 1, none⟩) (by simp) _).setCell (p := ⟨w.heap.size, 2, none⟩) (by simp) _
      · have CUT := Lib.hid (Tryd.strings_Cut ⟨r.toArray⟩ ⟨#[10]⟩ m wr (by simp [ByteArray.size]; omega) hmr)
        rw [show (ByteArray.mk r.toArray).data.toList = r by simp, show (ByteArray.mk #[10]).data.toList = [10] from rfl] at CUT
        have e1 : (r == []) = false := by simpa using hr
        have e2 : r.isEmpty = false := by simpa using hr
        have HMR := Lib.hid hmr
        clear hmr hp hbx
        rcases line_cases r with hno | ⟨a, r', hra, hno⟩
        · rw [cut_none r hno] at CUT
          have T := Lib.hid (hat.open HL hno (Or.inl hr))
          clear hat hr
          go_wp2_with fail
          refine CUT.out.mono ?_
          rintro e w2 ⟨rfl, hw2⟩
          obtain ⟨q, rfl⟩ := hw2
          go_wp2_with fail
          refine bodyPost_ret (v := .tuple #[.agg #[.int .u64 0, .slice none 0 0, .slice none 0 0], .int .i64 ((n : Int) + 1), .int .i64 4]) (by simp [results, Tryd.results17, go_sem, z0, z1, z2]) rfl (ParsePost.nil T.out ?_)
          exact ((((out_below HP.out.below).trans ((FewDraws.refl wr).drewN q |>.below _)).setCell (p := ⟨w.heap.size, 0, none⟩) (by simp) _).setCell (p := ⟨w.heap.size, 1, none⟩) (by simp) _).setCell (p := ⟨w.heap.size, 2, none⟩) (by simp) _
        · have hal : a.length ≤ 1048576 := by rw [hra] at hrn; simp at hrn; omega
          have hn2 : n ≤ 1048575 := by rw [hra] at hrn; simp at hrn; omega
          have hat2 := hat
          rw [hra] at hat2
          have LN := Lib.hid (fun q => line_any _ _ (wr.drewN q) _ st vt vp us (HP.out.above ((FewDraws.refl wr).drewN q |>.below _)) m HMR.out a hal (Nat.le_trans hat2.2.2.2.2.1.1 hn2) (fun t ht => Nat.le_trans (hat2.2.2.2.2.1.2 t ht) (by omega)))
          have HRA := Lib.hid hra
          have hrl : r.length = a.length + 1 + r'.length := by rw [hra]; simp; omega
          have HRL := Lib.hid hrl
          rw [hra, cut_line a r' hno, ← hra] at CUT
          have HAT2 := Lib.hid hat2
          have HNO := Lib.hid hno
          clear hat2 hat hra hr hno hrl
          cases htk : takeL st (words a) with
          | none =>
            have T := Lib.hid (HAT2.out.stop HL HNO.out htk)
            rw [htk] at LN
            clear htk
            go_wp2_with fail
            refine CUT.out.mono ?_
            rintro e w2 ⟨rfl, hw2⟩
            obtain ⟨q, rfl⟩ := hw2
            go_wp2_with fail
            refine (LN.out q).mono ?_
            rintro e w2 ⟨rfl, hb2⟩
            have B2 := Lib.hid hb2
            have BX := box_at hb2
            have x0 : w2.cell? ⟨w.heap.size, 0, none⟩ = some (.int .u64 0) := blk_cell BX 0
            have x1 : w2.cell? ⟨w.heap.size, 1, none⟩ = some (.slice none 0 0) := blk_cell BX 1
            have x2 : w2.cell? ⟨w.heap.size, 2, none⟩ = some (.slice none 0 0) := blk_cell BX 2
            have u0 : w2.frozen? ⟨w.heap.size, 0, none⟩ = false := blk_frozen BX 0
            have u1 : w2.frozen? ⟨w.heap.size, 1, none⟩ = false := blk_frozen BX 1
            have u2 : w2.frozen? ⟨w.heap.size, 2, none⟩ = false := blk_frozen BX 2
            clear hb2 BX z0 z1 z2 g0 g1 g2
            go_wp2_with fail
            refine bodyPost_ret (v := .tuple #[.agg #[.int .u64 0, .slice none 0 0, .slice none 0 0], .int .i64 ((n : Int) + 1), .int .i64 4]) (by simp [results, Tryd.results17, go_sem, x0, x1, x2]) rfl (ParsePost.nil T.out ?_)
            exact (((out_below B2.out).setCell (p := ⟨w.heap.size, 0, none⟩) (by simp) _).setCell (p := ⟨w.heap.size, 1, none⟩) (by simp) _).setCell (p := ⟨w.heap.size, 2, none⟩) (by simp) _
          | some st' =>
            have T := Lib.hid (HAT2.out.line HNO.out htk)
            rw [htk] at LN
            clear htk z0 z1 z2 g0 g1 g2
            go_wp2_with fail
            refine CUT.out.mono ?_
            rintro e w2 ⟨rfl, hw2⟩
            obtain ⟨q, rfl⟩ := hw2
            go_wp2_with fail
            refine (LN.out q).mono ?_
            rintro e w2 ⟨rfl, hp2⟩
            have P2 := Lib.hid hp2
            clear hp2
            go_wp2_with fail
            refine ⟨⟨n + 1, r', st', by go_num, rfl, T.out, P2.out⟩, ?_⟩
            have := HRL.out
            simp [strOf, ByteArray.size]
            omega
end Go.Proofs.YtnoeiaicligmiaaDoor
