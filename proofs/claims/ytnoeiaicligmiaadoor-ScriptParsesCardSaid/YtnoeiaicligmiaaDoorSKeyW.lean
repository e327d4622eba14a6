/- The walk of the program's key, its loop. -/
import Derived.Test.YtnoeiaicligmiaaDoorSKeyP
namespace Go.Proofs.YtnoeiaicligmiaaDoor
set_option linter.unusedVariables false
set_option linter.unusedSimpArgs false
open Go Go.RowKit
theorem wpList_buf_make (w : World) {ops : Array Oper} {rest : List Oper} {o : Oper} {a : Act} {Q : Exit → Act → World → Prop} (hgd : o.guard = none) (l c : Operand) (ho : o.op = Op.makeSlice 22 l c)
    (kl kc : IntKind) (C : Int) (n : Nat) (hl : a.eval l = .int kl 0) (hc : a.eval c = .int kc C) (hC : C = (n : Int)) (hn : n ≤ 140737488355328)
    (h : ∀ w', Buf w.heap.size w w' (.slice (some ⟨w.heap.size, 0, none⟩) 0 n) [] → wpList Tryd.prog ops Q rest (a.put o.dst (.slice (some ⟨w.heap.size, 0, none⟩) 0 n)) w') : wpList Tryd.prog ops Q (o :: rest) a w := by
  obtain ⟨i0, hi, hz0, hz1, hz2⟩ := info_parts byte_info
  refine wpList_make_own w hgd l c 22 ho w.heap.size 5 i0 (.int .u8 0) 1 Tryd.underlying22 hi hz0 hz1 kl kc C n hl hc hC (by rw [hz2]; omega) (by unfold maxLen; omega) (Nat.le_refl _) ?_
  intro w' ho hg
  exact h w' ⟨ho, below_new hg, kept_new (below_new hg), (below_new hg).size⟩
theorem iterPos_of {w : World} {K : Nat} {s : ByteArray} {p : Nat} (hk : w.heap[K]? = some (.stringIter s p)) : w.iterPos K = p := by
  unfold World.iterPos; rw [hk]
theorem or_byte (x y : Nat) (hx : x < 16) (hy : y < 16) : bits .or .i64 ((x : Int) * 16) (y : Int) % 256 = ((UInt8.ofNat (x * 16 + y)).toNat : Nat) := by
  have : ∀ a b : Fin 16, bits .or .i64 (((a.val : Nat) : Int) * 16) ((b.val : Nat) : Int) % 256 = ((UInt8.ofNat (a.val * 16 + b.val)).toNat : Nat) := by decide +kernel
  exact this ⟨x, hx⟩ ⟨y, hy⟩
def KeyLoop (w : World) (K : Nat) (s : ByteArray) (v h : Value) (wr : World) : Prop :=
  ∃ (j : Nat) (bs : List UInt8) (x : Nat), j ≤ s.size ∧ x < 16 ∧ bs.length ≤ j ∧ h = .int .i64 x ∧ Buf w.heap.size w wr v bs ∧ wr.heap[K]? = some (.stringIter s j) ∧ KeySt s.data.toList j bs x
set_option maxRecDepth 100000 in
set_option maxHeartbeats 4000000 in
theorem keyw_digits (s d : ByteArray) (w : World) (hs : d.size ≤ 1048576) (hl : s.data.toList = 120 :: d.data.toList) (he : d.size % 2 = 0)
    (PC : Calls Tryd.prog 80 #[.string s, .string ⟨#[120]⟩] w fun e w' => e = .returned (.tuple #[.string d, .bool true]) ∧ w = w') :
    Calls Tryd.prog 65 #[.string s] w fun e w' => e = .returned (.tuple #[.string ⟨(keyR s.data.toList).1.toArray⟩, .bool (keyR s.data.toList).2]) ∧ Below w.heap.size w w' := by
  have HP := Lib.hid PC
  have HL := Lib.hid hl
  have hrem : (((d.size : Int) % 2) != 0) = false := by simp; omega
  have HE := Lib.hid he
  clear PC hl he
  go_enter Tryd.func65, Tryd.ntmps65
  go_wp2_with fail
  refine HP.out.mono ?_
  rintro e w' ⟨rfl, rfl⟩
  go_wp2_with ((refine wpList_buf_make _ rfl _ _ rfl .i64 .i64 _ (d.size / 2) rfl rfl ?hC ?hn ?_); (case hC => go_num); (case hn => omega); intro w1 hb1; (have H1 := Lib.hid hb1); clear hb1)
  have hK : w.heap.size ≤ w1.heap.size := H1.out.size
  have hbr := H1.out.alloc (.stringIter d 0)
  have hir := World.iter_heap w1 d 0
  have HB := Lib.hid hbr
  have HR := Lib.hid hir
  clear hbr hir H1 hrem
  have X := Lib.hid (readKey_x d.data.toList)
  rw [← HL.out] at X
  have KS := Lib.hid (Lib.size_eq d)
  go_loopw [6, 7] (fun v h wr => KeyLoop w w1.heap.size d v h wr) (fun _ _ wr => d.size - wr.iterPos w1.heap.size)
  case atStart => exact ⟨0, [], 0, by omega, by omega, by simp, rfl, HB.out, HR.out, KeySt.start _⟩
  case round =>
    clear HB HR
    obtain ⟨j, bs, x, hj, hx, hbl, rfl, hbr, hir, hst⟩ := hrel
    have HB := Lib.hid hbr
    have HR := Lib.hid hir
    have HS := Lib.hid hst
    clear hbr hir hst
    by_cases hlt : j < d.size
    · have hb := UInt8.toNat_lt d[j]
      have GB := Lib.hid (show d.data.toList[j]? = some d[j] by rw [List.getElem?_eq_getElem (by rw [← KS.out]; exact hlt)]; rfl)
      by_cases ha : d[j].toNat < 128
      · have rn := fun ty => Lib.run_next_ascii_at (P := Tryd.prog) wr w1.heap.size d j ty HR.out hlt ha
        have IR : ∀ W, Calls Tryd.prog 81 #[.string digs16, .int .i32 ((d[j].toNat : Nat) : Int)] W fun e w' => e = .returned (.int .i64 (hexI d[j])) ∧ w' = W := fun W => by
          have h := Tryd.strings_IndexRune_ascii digs16 ((d[j].toNat : Nat) : Int) W (by omega) (by omega)
          rw [index_hexI, show ((d[j].toNat : Nat) : Int).toNat.toUInt8 = d[j] by simp] at h
          exact h
        have hi0 := hexI_lt d[j]
        obtain ⟨I, hI⟩ : ∃ I, I = hexI d[j] := ⟨_, rfl⟩
        rw [← hI] at hi0
        rw [← hI] at IR
        have IRH := Lib.hid IR
        have HI := Lib.hid hI
        clear hI IR
        by_cases hneg : I < 0
        · have hd : decide (I < 0) = true := decide_eq_true hneg
          have E := Lib.hid (keyR_none (show readKey s.data.toList = none by rw [X.out]; exact HS.out.bad GB.out (hexV_neg (by rw [← HI.out]; exact hneg))))
          go_wp2_with fail
          refine (IRH.out _).mono ?_
          rintro e w2 ⟨rfl, rfl⟩
          go_wp2_with fail
          go_ret2
          exact ⟨key_end E.out, (HB.out.iter HR.out hK hK _).below⟩
        · have hd : decide (I < 0) = false := decide_eq_false hneg
          obtain ⟨y, hy⟩ : ∃ y : Nat, I = (y : Int) := ⟨I.toNat, by omega⟩
          subst hy
          have HV := Lib.hid (show hexV d[j] = some y by rw [hexV_of (by rw [← HI.out]; omega), ← HI.out]; simp)
          have hy16 : y < 16 := by omega
          have HB2 := Lib.hid (HB.out.iter HR.out hK hK (j + 1))
          have HR2 := Lib.hid (Lib.iterAt_heap wr w1.heap.size d j (j + 1) HR.out)
          have hip := iterPos_of HR2.out
          have hip0 := iterPos_of HR.out
          have IP := Lib.hid (And.intro hip hip0)
          clear hip hip0
          by_cases hev : j % 2 = 0
          · have hm : (((j : Int) % 2) == 0) = true := by simp; omega
            go_wp2_with fail
            refine (IRH.out _).mono ?_
            rintro e w2 ⟨rfl, rfl⟩
            go_wp2_with fail
            refine ⟨⟨j + 1, bs, y, by omega, hy16, by omega, rfl, HB2.out, HR2.out, HS.out.high hev GB.out HV.out⟩, ?_⟩
            rw [IP.out.1, IP.out.2]
            omega
          · have hm : (((j : Int) % 2) == 0) = false := by simp; omega
            go_wp2_with fail
            refine (IRH.out _).mono ?_
            rintro e w2 ⟨rfl, rfl⟩
            go_wp2_with (at_builtin; (refine wpList_buf_new rfl _ _ rfl _ _ _ _ _ HB2.out.restart rfl [UInt8.ofNat (x * 16 + y)] _ ?hcs 1 rfl rfl ?hl ?_); (case hcs => (rw [or_byte x y hx hy16]; rfl)); (case hl => omega); intro v3 w3 hb3; (have H3 := Lib.hid hb3); clear hb3)
            have HR3 := Lib.hid (H3.out.iterKept HR2.out)
            refine ⟨⟨j + 1, _, x, by omega, hx, ?_, rfl, HB2.out.join H3.out, HR3.out, HS.out.low (by omega) GB.out HV.out⟩, ?_⟩
            · simp only [List.length_append, List.length_cons, List.length_nil]; omega
            · rw [iterPos_of HR3.out, IP.out.2]
              omega
      · obtain ⟨r0, r1⟩ := decode_high d j hlt (by omega)
        have rn := fun ty => Lib.run_next_any_at (P := Tryd.prog) wr w1.heap.size d j ty HR.out hlt
        have r2 := decode_le d j
        have E := Lib.hid (keyR_none (show readKey s.data.toList = none by rw [X.out]; exact HS.out.bad GB.out (hexV_high (by omega))))
        have HB2 := Lib.hid (HB.out.iter HR.out hK hK (j + (Utf8.decode d j).2))
        go_wp2_with fail
        refine (rune_any _ _ (by omega) (by omega)).mono ?_
        rintro e w2 ⟨rfl, hb2⟩
        have H2 := Lib.hid hb2
        clear hb2
        go_wp2_with fail
        go_ret2
        exact ⟨key_end E.out, HB2.out.below.trans (H2.out.mono HB2.out.size)⟩
    · have rn := fun ty => Lib.run_next_end_at (P := Tryd.prog) wr w1.heap.size d j ty HR.out hlt
      obtain rfl : j = d.size := by omega
      have E := Lib.hid (show readKey s.data.toList = some bs by
        rw [X.out]
        have := HS.out
        rw [KS.out] at this
        exact this.done (by rw [← KS.out]; exact HE.out))
      have hcs := buf_string HB.out
      go_wp2_with fail
      go_ret2
      exact ⟨key_end (keyR_some E.out), HB.out.below⟩
set_option maxHeartbeats 1000000 in
theorem keyw_any (s : ByteArray) (w : World) (hs : s.size ≤ 1048576) :
    Calls Tryd.prog 65 #[.string s] w fun e w' => e = .returned (.tuple #[.string ⟨(keyR s.data.toList).1.toArray⟩, .bool (keyR s.data.toList).2]) ∧ Below w.heap.size w w' := by
  have PC := Tryd.strings_CutPrefix s ⟨#[120]⟩ w
  rw [show (ByteArray.mk #[120]).data.toList = [120] from rfl] at PC
  rcases pre_cases s.data.toList 120 with ⟨r, hl, hp, ht⟩ | ⟨hp, ht, hh⟩
  · rw [hp, ht] at PC
    have hsz : (⟨r.toArray⟩ : ByteArray).size = r.length := by simp [ByteArray.size]
    have hrl : r.length + 1 = s.size := by
      have := Lib.size_eq s
      rw [hl] at this
      simp only [List.length_cons] at this
      omega
    have PC' : Calls Tryd.prog 80 #[.string s, .string ⟨#[120]⟩] w fun e w' => e = .returned (.tuple #[.string ⟨r.toArray⟩, .bool true]) ∧ w = w' := PC.mono fun _ _ ⟨h1, h2⟩ => ⟨h1, h2.symm⟩
    by_cases he : r.length % 2 = 0
    · exact keyw_digits s ⟨r.toArray⟩ w (by omega) (by rw [hl]) (by omega) PC'
    · have X := Lib.hid (keyR_none (show readKey s.data.toList = none by rw [hl, readKey_x]; exact hexes_odd (r.length / 2) r (by omega)))
      have hrem : ((((⟨r.toArray⟩ : ByteArray).size : Int) % 2) != 0) = true := by simp; omega
      have hr0 : (⟨r.toArray⟩ : ByteArray).size ≤ 1048576 := by omega
      have HP := Lib.hid PC'
      clear PC PC' hl hp ht hsz hrl
      generalize (⟨r.toArray⟩ : ByteArray) = d at *
      go_enter Tryd.func65, Tryd.ntmps65
      go_wp2_with fail
      refine HP.out.mono ?_
      rintro e w' ⟨rfl, rfl⟩
      go_wp2_with fail
      go_ret2
      exact ⟨key_end X.out, Below.refl _ _⟩
  · rw [hp, ht] at PC
    have X := Lib.hid (keyR_none (readKey_no hh))
    have HP := Lib.hid PC
    clear PC hp ht hh
    go_enter Tryd.func65, Tryd.ntmps65
    go_wp2_with fail
    refine HP.out.mono ?_
    rintro e w' ⟨rfl, rfl⟩
    go_wp2_with fail
    go_ret2
    exact ⟨key_end X.out, Below.refl _ _⟩
end Go.Proofs.YtnoeiaicligmiaaDoor
