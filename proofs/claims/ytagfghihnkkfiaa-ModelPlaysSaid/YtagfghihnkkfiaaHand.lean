/- The walk of Handles. -/
import Derived.Test.YtagfghihnkkfiaaPlSix
import Derived.Test.YtagfghihnkkfiaaLaid2
import Derived.Sort.OwnSortedInts
namespace Go.Proofs.Ytagfghihnkkfiaa
set_option linter.unusedVariables false
set_option linter.unusedSimpArgs false
open Go.RowKit Go.MapKept
theorem int_info : (Try.prog.info? 3).map (fun i => (i.zero, i.size, i.bytes)) = some (some (.int .i64 0), 1, 8) := by kernel_rfl
def leB (x y : Int) : Bool := decide (x ≤ y)
theorem sortI_any (w : World) (base g cap : Nat) (ss : List Int) (hown : w.ownsRow base 3 1 (.slice (some ⟨g, 0, none⟩) ss.length cap) ss.length (ss.map (Value.int .i64))) (hn : ss.length ≤ 1099511627776) :
    Calls Try.prog 37 #[.slice (some ⟨g, 0, none⟩) ss.length cap] w fun e w' => e = .returned (.tuple #[]) ∧ w'.ownsRow base 3 1 (.slice (some ⟨g, 0, none⟩) ss.length cap) ss.length ((ss.mergeSort leB).map (Value.int .i64)) ∧ w.grownBy w' (some g) := by
  rcases hown.2 with ⟨h0, _⟩ | ⟨g', cap', cur, hv, hg, hb, h1, h2, h3, h4⟩
  · simp at h0
  · simp only [Value.slice.injEq, Option.some.injEq, Addr.mk.injEq] at hv
    obtain ⟨⟨rfl, _, _⟩, _, rfl⟩ := hv
    have hg : g < w.heap.size := (Array.getElem?_eq_some_iff.1 hb).1
    refine (AnyM.slices_Sort_int Try.sortI g 0 cap ss w (holds_of_blockI hb (by rw [Nat.mul_one] at h4; exact h4)) hg (by omega)).mono fun e w' ⟨he, n, os, hw⟩ => ⟨he, ?_, ?_⟩
    · subst hw
      exact ownsRow_sortedI (List.length_mergeSort _) (by omega) hb h1 h2 h3
    · subst hw
      exact grownBy_sortedI _
def keyOf (e : MapEntry) : Int := match e.key with | .int _ k => k | _ => 0
theorem maps_entries {w : World} {r : Nat} {L : List (Int × MapD)} (h : MapIs w r (.int .i64) (Value.int .i64) mapV L) :
    ∃ es clock, w.heap[r]? = some (.map es clock) ∧ Stamped es clock ∧ es.toList.map keyOf = L.map (·.1) ∧ ∀ e ∈ es.toList, e.key = .int .i64 (keyOf e) := by
  obtain ⟨es, clock, hb, hs, hk, hL⟩ := h
  have hkey : ∀ e ∈ es.toList, e.key = .int .i64 (keyOf e) := fun e he => by
    have : (e.key, e.val) ∈ L.map (fun p => (Value.int .i64 p.1, mapV p.2)) := by rw [← hL]; exact List.mem_map.2 ⟨e, he, rfl⟩
    obtain ⟨p, _, hp⟩ := List.mem_map.1 this
    simp only [Prod.mk.injEq] at hp
    rw [keyOf, ← hp.1]
  refine ⟨es, clock, hb, hs, ?_, hkey⟩
  have h1 := congrArg (List.map (fun p : Value × Value => match p.1 with | .int _ k => k | _ => 0)) hL
  simp only [List.map_map] at h1
  exact h1
theorem made_facts2 {w w1 : World} {r bf : Nat} {es : Array MapEntry} {clock : Nat} (hb : w.heap[r]? = some (.map es clock)) (hlr : r < w.heap.size) (hlf : bf < w.heap.size) (hc : w.cell? ⟨bf, 1, none⟩ = some (.map (some r)))
    (hg : w.grownBy w1 none) :
    w1.heap[r]? = some (.map es clock) ∧
    (Instr.range 75 (.map (some r))).run Try.prog w1 = .ok (.pointer (some ⟨w1.heap.size, 0, none⟩)) (w1.alloc (.mapIter (some r) clock #[] clock)) ∧
    w1.cell? ⟨bf, 1, none⟩ = some (.map (some r)) ∧ Below w.heap.size w w1 := by
  have e1 : ∀ k, k < w.heap.size → w1.heap[k]? = w.heap[k]? := fun k hk => hg.block k (by omega) (by simp)
  have hb1 : w1.heap[r]? = some (.map es clock) := (e1 r hlr).trans hb
  refine ⟨hb1, ?_, (World.cell?_of_block (e1 bf hlf)).trans hc, ⟨hg.os, hg.tape, hg.output, hg.size, e1⟩⟩
  simp [Instr.range, run_underlying Try.underlying75, MapKept.run_getObj_map hb1, Result.andThen, go_sem]
theorem new1_cell (w : World) (a : Value) (T : TypeId) : ∀ j u, [a][j]? = some u → (w.alloc (.cells #[a] T)).cell? ((⟨w.heap.size, 0, none⟩ : Addr).add j) = some u := by
  intro j u h
  match j, h with
  | 0, h =>
    simp at h
    subst h
    rw [addr_at, blk_cell (alloc_here w _)]
    rfl
theorem one1_cell (a : Int) : ∀ u ∈ [Value.int .i64 a], u.oneCell' = true := by
  intro u hu
  simp at hu
  subst hu
  rfl
def HandRel (w : World) (r it : Nat) (es : Array MapEntry) (clock n k : Nat) (v : Value) (wr : World) : Prop :=
  ∃ (done rem : List MapEntry), k = rem.length ∧ (done ++ rem).Perm es.toList ∧ IterIs wr it r es clock rem ∧ v = .slice (some ⟨w.heap.size, 0, none⟩) done.length n ∧
    wr.ownsRow w.heap.size 3 1 (.slice (some ⟨w.heap.size, 0, none⟩) done.length n) done.length (done.map fun e => Value.int .i64 (keyOf e)) ∧ Below w.heap.size w wr ∧ done.length + rem.length = n
/-- what Handles leaves -/
def HandPost (w : World) (ks : List Int) (e : Ending) (w' : World) : Prop :=
  ∃ (g : Nat) (zs : List Int), e = .returned (.slice (some ⟨g, 0, none⟩) ks.length ks.length) ∧ zs.Perm ks ∧ zs.Pairwise (fun a b => a ≤ b) ∧ IntsIn w' g zs ∧ w.heap.size ≤ g ∧ g < w'.heap.size ∧ Below w.heap.size w w'
theorem mergeSort_le (l : List Int) : (l.mergeSort leB).Pairwise (fun a b => a ≤ b) := by
  have := List.pairwise_mergeSort (le := leB) (fun a b c h1 h2 => by simp only [leB, decide_eq_true_eq] at *; omega) (fun a b => by simp only [leB, Bool.or_eq_true, decide_eq_true_eq]; omega) l
  exact this.imp (fun h => by simpa [leB] using h)
theorem owns_ints {w : World} {base g n cap : Nat} {zs : List Int} (h : w.ownsRow base 3 1 (.slice (some ⟨g, 0, none⟩) n cap) n (zs.map (Value.int .i64))) : IntsIn w g zs ∧ base ≤ g ∧ g < w.heap.size := by
  have hc := h.cells (g := g) rfl
  rcases h.2 with ⟨h1, _⟩ | ⟨g', cap', cur, h1, hb, h2, _⟩
  · simp at h1
  · simp only [Value.slice.injEq, Option.some.injEq, Addr.mk.injEq] at h1
    obtain ⟨⟨rfl, _, _⟩, _, _⟩ := h1
    refine ⟨fun P x hx => ?_, hb, (Array.getElem?_eq_some_iff.1 h2).1⟩
    have := hc P (.int .i64 x) (by simp [hx])
    rw [addr_at] at this
    exact this
set_option maxRecDepth 100000 in
set_option maxHeartbeats 1000000 in
theorem handles_any (w : World) (bf bm bi : Nat) (F : FamD) (h : FamIs w bf bm bi F) (hn : F.maps.length ≤ 1099511627776) :
    Calls Try.prog 19 #[.pointer (some ⟨bf, 0, none⟩)] w fun e w' => HandPost w (F.maps.map (·.1)) e w' := by
  obtain ⟨i0, hi, hz0, hz1, hz2⟩ := info_parts int_info
  have hlf := h.lt (k := bf) (Or.inl rfl)
  have hlm := h.lt (k := bm) (Or.inr (Or.inl rfl))
  obtain ⟨c0, c1, c2⟩ := h.cell
  obtain ⟨es, clock, hb, hst, hkv, hen⟩ := maps_entries h.maps
  have hlen := fun ty => MapIs.len (P := Try.prog) Try.underlying75 h.maps ty
  generalize hL : F.maps.length = n at *
  have KV := Lib.hid hkv
  have EN := Lib.hid hen
  have ST := Lib.hid hst
  have HB := Lib.hid hb
  have HL := Lib.hid hL
  have C1 := Lib.hid c1
  clear h hkv hen hst hb hL c0 c2
  go_enter Try.func19, Try.ntmps19
  go_wp2_with (at_make; refine wpList_make_own _ rfl _ _ 23 rfl w.heap.size 3 i0 _ 1 Try.underlying23 hi hz0 hz1 _ _ _ n rfl rfl (by omega) (by rw [hz2]; omega) (by unfold maxLen; omega) (by simp) ?_; intro w1 hown1 hg1; have hx := made_facts2 HB.out hlm hlf C1.out hg1; obtain ⟨x2, x3, x4, x5⟩ := hx; have HB1 := Lib.hid x2; have BB1 := Lib.hid x5; have OW1 := Lib.hid hown1; clear x2 x5 hg1 hown1)
  have hit : w.heap.size < w1.heap.size := by
    rcases OW1.out.2 with ⟨h1, _⟩ | ⟨g, cap, cur, h1, _, h2, _⟩
    · simp at h1
    · simp at h1
      have := (Array.getElem?_eq_some_iff.1 h2).1
      omega
  go_loopg [3] n (fun k v wr => HandRel w bm w1.heap.size es clock n k v wr)
  case atStart =>
    have hel : es.toList.length = n := by
      have := congrArg List.length KV.out
      rw [List.length_map, List.length_map, HL.out] at this
      exact this
    refine ⟨[], es.toList, hel.symm, by simp, IterIs.start HB1.out ST.out, rfl, ?_, BB1.out.alloc (by omega) _, by simpa using hel⟩
    have := OW1.out.alloc (.mapIter (some bm) clock #[] clock)
    simpa using this
  case round =>
    clear x3 x4 OW1 HB1 BB1 hlen
    obtain ⟨done, rem, hk, hperm, hiter, rfl, hown, hbw, hdn⟩ := hrel
    have hbd : (es.toList.map (·.born)).Nodup := ST.out.2.1
    rcases hiter.next (P := Try.prog) 0 with ⟨hnil, hrun⟩ | ⟨e, w3, he, hrun, hent, hit3, ht3⟩
    · subst hnil
      have hdl : done.length = n := by simpa using hdn
      have hpl : (done.map keyOf).Perm (F.maps.map (·.1)) := by
        have := hperm.map keyOf
        rw [List.append_nil, KV.out] at this
        exact this
      have hs := sortI_any wr w.heap.size w.heap.size n (done.map keyOf) (by rw [List.length_map, List.map_map]; exact hown) (by rw [List.length_map]; omega)
      rw [List.length_map, hdl] at hs
      have HS := Lib.hid hs
      have PL := Lib.hid hpl
      have BW := Lib.hid hbw
      have DL := Lib.hid hdl
      clear hiter hperm hown hbw hk hdn hbd hs hpl
      rw [hdl]
      clear hdl
      go_wp2_with fail
      refine HS.out.mono ?_
      rintro e w5 ⟨rfl, hl3, hl4⟩
      have O5 := Lib.hid hl3
      have B5 : Hid (Below w.heap.size w w5) := BW.out.grown hl4 BW.out.size (fun k hk => by simp at hk; omega)
      clear HS BW hl3 hl4
      go_wp2_with fail
      go_ret
      obtain ⟨q1, q2, q3⟩ := owns_ints O5.out
      refine ⟨w.heap.size, (done.map keyOf).mergeSort leB, ?_, (List.mergeSort_perm _ _).trans PL.out, mergeSort_le _, q1, q2, q3, B5.out⟩
      rw [List.length_map, HL.out]
      rfl
    · have hmem : e ∈ es.toList := hperm.subset (List.mem_append_right _ he)
      have hkv := EN.out e hmem
      rw [hkv] at hrun hent
      have hnd : (rem.map (·.born)).Nodup := by
        have := (hperm.map (·.born)).nodup_iff.2 hbd
        rw [List.map_append] at this
        exact (List.nodup_append.1 this).2.1
      have hps := perm_strike hnd he
      have ho3 : w3.ownsRow w.heap.size 3 1 (.slice (some ⟨w.heap.size, 0, none⟩) done.length n) done.length (done.map fun e => Value.int .i64 (keyOf e)) := by
        obtain ⟨o1, o2⟩ := hown
        refine ⟨o1, ?_⟩
        rcases o2 with ⟨h1, _⟩ | ⟨g, cap, cur, h1, h2, h3, h4⟩
        · simp at h1
        · have hg : g = w.heap.size := by simp at h1; omega
          exact Or.inr ⟨g, cap, cur, h1, h2, (ht3.block g (by omega)).trans h3, h4⟩
      have hb3 : Below w.heap.size w w3 := ⟨ht3.os.trans hbw.os, ht3.tape.trans hbw.tape, ht3.output.trans hbw.output, by rw [ht3.size]; exact hbw.size, fun k hk => (ht3.block k (by omega)).trans (hbw.block k hk)⟩
      have hsz3 : w1.heap.size < w3.heap.size := by
        obtain ⟨seen, q1, _⟩ := hit3
        exact (Array.getElem?_eq_some_iff.1 q1).1
      have hrl : rem.length = (rem.filter (fun x => x.born != e.born)).length + 1 := by rw [← hps.length_eq]; simp
      have DD := Lib.hid hdn
      have PP := Lib.hid (And.intro hperm hps)
      have OO := Lib.hid ho3
      have II := Lib.hid hit3
      have BB := Lib.hid hb3
      have KK := Lib.hid hk
      have RL := Lib.hid hrl
      have hlen3 : done.length < n := by omega
      clear hiter hperm hown hbw hk hdn hbd hmem hkv hnd hps ho3 hit3 hb3 ht3 he hrl
      generalize hkk : keyOf e = key at *
      have KE := Lib.hid hkk
      clear hkk
      generalize e.val = ev at *
      go_wp2_with (at_builtin; (refine wpList_append_fits _ rfl _ _ 23 rfl w.heap.size 3 i0 1 Try.underlying23 hi hz1 w.heap.size done.length n _ rfl (OO.out.alloc _) ⟨w3.heap.size, 0, none⟩ 1 1 [.int .i64 key] rfl rfl (new1_cell w3 _ _) (one1_cell _) (by omega) ?_); intro w4 hown4 hg4; have O4 := Lib.hid hown4; have G4 := Lib.hid hg4; clear hown4 hg4)
      go_roundg (rem.filter (fun x => x.born != e.born)).length
      case measure => rw [KK.out, RL.out]; omega
      case rel =>
        have hdl := DD.out
        have hrl := RL.out
        refine ⟨done ++ [e], _, rfl, ?_, ?_, ?_, ?_, ?_, ?_⟩
        · have := PP.out
          rw [List.append_assoc]
          exact (List.Perm.append_left done this.2).trans this.1
        · obtain ⟨seen, q1, q2, q3, q4⟩ := II.out
          refine ⟨seen, ?_, ?_, q3, q4⟩
          · rw [G4.out.block w1.heap.size (by simp; omega) (by simp; omega), Below.heap_alloc _ _ _ (by omega)]; exact q1
          · rw [G4.out.block bm (by simp; omega) (by simp; omega), Below.heap_alloc _ _ _ (by omega)]; exact q2
        · simp
        · have h4 := O4.out
          simpa [KE.out] using h4
        · exact (BB.out.alloc (by omega) _).grown G4.out (by simp; omega) (fun k hk => by simp at hk; omega)
        · simp; omega
end Go.Proofs.Ytagfghihnkkfiaa
