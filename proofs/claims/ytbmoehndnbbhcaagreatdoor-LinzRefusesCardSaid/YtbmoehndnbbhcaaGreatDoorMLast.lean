/- What the walk of Copy needs. The walk of package model's Copy. A region that draws its order and ends in one operation that waits for all the others: the beginning is walked as a region of its own. -/
import Derived.Test.YtbmoehndnbbhcaaGreatDoorMRMem
import Derived.Test.YtbmoehndnbbhcaaGreatDoorMModE
import Derived.Deep.LoopGhost
import Derived.Deep.QuietTactic
import Derived.BigQuiet
import Derived.Test.YtbmoehndnbbhcaaGreatDoorMModP
import Derived.Test.YtbmoehndnbbhcaaGreatDoorLaid
import Derived.Deep.RegionHeld3
namespace Go.Proofs.YtbmoehndnbbhcaaGreatDoor
set_option linter.unusedVariables false
set_option linter.unusedSimpArgs false
open Go Go.RowKit Go.MapKept
section
variable {w : World} {r : Nat}
theorem IterIs.of_blocks {w w' : World} {it r : Nat} {es : Array MapEntry} {clock : Nat} {rem : List MapEntry} (h : IterIs w it r es clock rem) (h1 : w'.heap[it]? = w.heap[it]?) (h2 : w'.heap[r]? = w.heap[r]?) : IterIs w' it r es clock rem := by
  obtain ⟨seen, q1, q2, q3, q4⟩ := h
  exact ⟨seen, h1.trans q1, h2.trans q2, q3, q4⟩
theorem turned_below {w0 w w3 : World} {it : Nat} (h : Below w0.heap.size w0 w) (ht : Turned it w w3) (hi : w0.heap.size ≤ it) : Below w0.heap.size w0 w3 :=
  ⟨ht.os.trans h.os, ht.tape.trans h.tape, ht.output.trans h.output, by rw [ht.size]; exact h.size, fun k hk => (ht.block k (by omega)).trans (h.block k hk)⟩
theorem range_map {T kt et : TypeId} (hT : Tryz.prog.underlying T = some (.map kt et)) {es : Array MapEntry} {clock : Nat} (hb : w.heap[r]? = some (.map es clock)) :
    (Instr.range T (.map (some r))).run Tryz.prog w = .ok (.pointer (some ⟨w.heap.size, 0, none⟩)) (w.alloc (.mapIter (some r) clock #[] clock)) := by
  simp [Instr.range, run_underlying hT, MapKept.run_getObj_map hb, Result.andThen, go_sem]
end
def keyOf (e : MapEntry) : Int := match e.key with | .int _ k => k | _ => 0
structure FamLe (F : FamD) : Prop where
  maps : F.maps.length ≤ 1099511627776
  iters : F.iters.length ≤ 1099511627776
  vals : ∀ p ∈ F.maps, p.2.vals.length ≤ 1099511627776
end Go.Proofs.YtbmoehndnbbhcaaGreatDoor
namespace Go.Proofs.YtbmoehndnbbhcaaGreatDoor
set_option linter.unusedVariables false
set_option linter.unusedSimpArgs false
open Go Go.RowKit Go.MapKept
theorem cloneI_any (w : World) (r : Nat) (es : Array MapEntry) (clock : Nat) (hb : w.heap[r]? = some (.map es clock)) :
    Calls Tryz.prog 61 #[.map (some r)] w fun e w' => e = .returned (.map (some w.heap.size)) ∧ w' = w.alloc (.map es clock) :=
  AnyW.maps_Clone Tryz.cloneI r es clock w hb
theorem balw {a w : World} (h : Below a.heap.size a w) (o : Obj) : Below a.heap.size a (w.alloc o) := h.alloc h.size o
theorem makeMap_n (w : World) (n : Nat) : (Instr.makeMap 100 (some (.int .i64 n))).run Tryz.prog w = .ok (.map (some w.heap.size)) (w.alloc (.map #[] 0)) := by
  simp [Instr.makeMap, run_underlying Tryz.underlying100, Result.andThen, go_sem, asInt]
/-- the copy that has no maps yet -/
def CopyMid (w : World) (F : FamD) (v : Value) (wx : World) : Prop :=
  ∃ cg cm ci, v = .pointer (some ⟨cg, 0, none⟩) ∧ FamIs wx cg cm ci ⟨F.mask, [], F.iters⟩ ∧ (w.heap.size ≤ cg ∧ w.heap.size ≤ cm ∧ w.heap.size ≤ ci) ∧ Below w.heap.size w wx
theorem copy_mid1 {w : World} {F : FamD} {es : Array MapEntry} {ck : Nat} (hs : Stamped es ck) (hk : ∀ x ∈ es.toList, IsKey (.int .i64) x.key) (hL : es.toList.map (fun e => (e.key, e.val)) = F.iters.map (fun p => (Value.int .i64 p.1, itV p.2))) :
    CopyMid w F (.pointer (some ⟨w.heap.size + 1 + 1, 0, none⟩)) (((w.alloc (.map #[] 0)).alloc (.map es ck)).alloc (.cells #[.int .u64 F.mask, .map (some w.heap.size), .map (some (w.heap.size + 1))] 103)).drew := by
  have z1 : (w.alloc (.map #[] 0)).heap.size = w.heap.size + 1 := by simp
  have z2 : ((w.alloc (.map #[] 0)).alloc (.map es ck)).heap.size = w.heap.size + 1 + 1 := by simp
  refine ⟨_, w.heap.size, w.heap.size + 1, rfl, ?_, ⟨by omega, by omega, by omega⟩, (balw (balw (balw (Below.refl _ _) _) _) _).drew⟩
  have hf : FamIs (((w.alloc (.map #[] 0)).alloc (.map es ck)).alloc (.cells #[.int .u64 F.mask, .map (some w.heap.size), .map (some (w.heap.size + 1))] 103)) (w.heap.size + 1 + 1) w.heap.size (w.heap.size + 1) ⟨F.mask, [], F.iters⟩ := by
    refine ⟨?_, ?_, ?_, fun p hp => by simp at hp, by simp⟩
    · rw [← z2]
      exact (heap_alloc _ _).1
    · exact ((MapIs.made (κ := Int) (β := MapD) w _ _ _).alloc _).alloc _
    · refine MapIs.alloc (w := (w.alloc (.map #[] 0)).alloc (.map es ck)) ⟨es, ck, ?_, hs, hk, hL⟩ _
      rw [← z1]
      exact (heap_alloc _ _).1
  exact hf.keep fun _ _ => rfl
theorem copy_mid2 {w : World} {F : FamD} {es : Array MapEntry} {ck : Nat} (hs : Stamped es ck) (hk : ∀ x ∈ es.toList, IsKey (.int .i64) x.key) (hL : es.toList.map (fun e => (e.key, e.val)) = F.iters.map (fun p => (Value.int .i64 p.1, itV p.2))) :
    CopyMid w F (.pointer (some ⟨w.heap.size + 1 + 1, 0, none⟩)) (((w.alloc (.map es ck)).alloc (.map #[] 0)).alloc (.cells #[.int .u64 F.mask, .map (some (w.heap.size + 1)), .map (some w.heap.size)] 103)).drew := by
  have z1 : (w.alloc (.map es ck)).heap.size = w.heap.size + 1 := by simp
  have z2 : ((w.alloc (.map es ck)).alloc (.map #[] 0)).heap.size = w.heap.size + 1 + 1 := by simp
  refine ⟨_, w.heap.size + 1, w.heap.size, rfl, ?_, ⟨by omega, by omega, by omega⟩, (balw (balw (balw (Below.refl _ _) _) _) _).drew⟩
  have hf : FamIs (((w.alloc (.map es ck)).alloc (.map #[] 0)).alloc (.cells #[.int .u64 F.mask, .map (some (w.heap.size + 1)), .map (some w.heap.size)] 103)) (w.heap.size + 1 + 1) (w.heap.size + 1) w.heap.size ⟨F.mask, [], F.iters⟩ := by
    refine ⟨?_, ?_, ?_, fun p hp => by simp at hp, by simp⟩
    · rw [← z2]
      exact (heap_alloc _ _).1
    · have := ((MapIs.made (κ := Int) (β := MapD) (w.alloc (.map es ck)) (.int .i64) (Value.int .i64) mapV).alloc (.cells #[.int .u64 F.mask, .map (some (w.heap.size + 1)), .map (some w.heap.size)] 103))
      rw [z1] at this
      exact this
    · exact (MapIs.alloc (w := w.alloc (.map es ck)) ⟨es, ck, (heap_alloc _ _).1, hs, hk, hL⟩ _).alloc _
  exact hf.keep fun _ _ => rfl
theorem fam_entries {w : World} {r : Nat} {L : List (Int × MapD)} (h : MapIs w r (.int .i64) (Value.int .i64) mapV L) :
    ∃ es clock, w.heap[r]? = some (.map es clock) ∧ Stamped es clock ∧ es.toList.map keyOf = L.map (·.1) ∧ ∀ e ∈ es.toList, ∃ p ∈ L, e.key = .int .i64 p.1 ∧ e.val = mapV p.2 ∧ keyOf e = p.1 := by
  obtain ⟨es, clock, hb, hs, hk, hL⟩ := h
  refine ⟨es, clock, hb, hs, ?_, fun e he => ?_⟩
  · have h1 := congrArg (List.map (fun p : Value × Value => match p.1 with | .int _ k => k | _ => 0)) hL
    simp only [List.map_map] at h1
    exact h1
  · have : (e.key, e.val) ∈ L.map (fun p => (Value.int .i64 p.1, mapV p.2)) := by rw [← hL]; exact List.mem_map.2 ⟨e, he, rfl⟩
    obtain ⟨p, hp, hpe⟩ := List.mem_map.1 this
    simp only [Prod.mk.injEq] at hpe
    exact ⟨p, hp, hpe.1.symm, hpe.2.symm, by rw [keyOf, ← hpe.1]⟩
/-- what the copy of an entry holds -/
def pairE (F : FamD) (e : MapEntry) : Int × AMap := (keyOf e, ((alook F.maps (keyOf e)).map MapD.abs).getD ⟨[], false⟩)
def CopyRel (w : World) (bm it : Nat) (es : Array MapEntry) (clock : Nat) (F : FamD) (cg cm ci : Nat) (k : Nat) (wr : World) : Prop :=
  ∃ (done rem : List MapEntry) (G : FamD), k = rem.length ∧ (done ++ rem).Perm es.toList ∧ IterIs wr it bm es clock rem ∧ FamIs wr cg cm ci G ∧ G.mask = F.mask ∧ G.iters = F.iters ∧ G.abs.maps = done.map (pairE F) ∧ (∀ b, G.own cg cm ci b → w.heap.size ≤ b ∧ b ≠ it) ∧ Below w.heap.size w wr
/-- what Copy leaves -/
def CopyPost (w : World) (F : FamD) (e : Ending) (w' : World) : Prop :=
  ∃ (cg cm ci : Nat) (G : FamD), e = .returned (.pointer (some ⟨cg, 0, none⟩)) ∧ FamIs w' cg cm ci G ∧ G.mask = F.mask ∧ G.iters = F.iters ∧ G.abs.maps.Perm F.abs.maps ∧ (∀ b, G.own cg cm ci b → w.heap.size ≤ b) ∧ Below w.heap.size w w'
theorem pairs_all {F : FamD} {es : Array MapEntry} {done : List MapEntry} (hn : (F.maps.map (·.1)).Nodup) (hkv : es.toList.map keyOf = F.maps.map (·.1)) (hp : done.Perm es.toList) : (done.map (pairE F)).Perm F.abs.maps := by
  have e1 : es.toList.map (pairE F) = F.abs.maps := by
    have : es.toList.map (pairE F) = (es.toList.map keyOf).map (fun k => (k, ((alook F.maps k).map MapD.abs).getD ⟨[], false⟩)) := by rw [List.map_map]; rfl
    rw [this, hkv, List.map_map]
    show _ = F.maps.map (fun p => (p.1, p.2.abs))
    refine List.map_congr_left fun p hp => ?_
    simp only [Function.comp]
    rw [alook_some hn (k := p.1) (v := p.2) hp]
    rfl
  rw [← e1]
  exact hp.map _
theorem copy_step {W : World} {cg cm ci : Nat} {G : FamD} {n : Int} {es : Array MapEntry} {ck : Nat} {vals : List (ByteArray × Int)} {ro : Bool} (hG : FamIs W cg cm ci G) (hnew : alook G.maps n = none) (hs : Stamped es ck) (hk : ∀ x ∈ es.toList, IsKey .string x.key) (hL : es.toList.map (fun e => (e.key, e.val)) = vals.map (fun p => (Value.string p.1, Value.int .u64 p.2))) :
    ∃ w8, (Instr.mapUpdate 100 (.map (some cm)) (.int .i64 n) (.agg #[.map (some W.heap.size), .bool ro])).run Tryz.prog (W.alloc (.map es ck)).drew = .ok () w8 ∧ FamIs w8 cg cm ci { G with maps := aset G.maps n ⟨W.heap.size, vals, ro⟩ } ∧ Turned cm (W.alloc (.map es ck)).drew w8 := by
  have mi : MapIs (W.alloc (.map es ck)).drew cm (.int .i64) (Value.int .i64) mapV G.maps := hG.maps.alloc _
  obtain ⟨ob, hrun, hmi⟩ := mi.update (P := Tryz.prog) key_int inj_int Tryz.underlying100 Tryz.underlying3 n ⟨W.heap.size, vals, ro⟩
  have hT := Turned.mk' (w := (W.alloc (.map es ck)).drew) cm ob
  have hva : ValsIs (W.alloc (.map es ck)).drew W.heap.size vals := ⟨es, ck, (heap_alloc W _).1, hs, hk, hL⟩
  have hcm : cm < W.heap.size := hG.maps.lt
  refine ⟨_, hrun, ?_, hT⟩
  exact hG.new_map hnew (fun k hk hne => (hT.block k hne).trans (Below.heap_alloc _ _ _ hk)) hmi (Nat.le_refl _) (hva.of_block (hT.block _ (by show W.heap.size ≠ cm; omega)))
set_option maxRecDepth 100000 in
set_option maxHeartbeats 2000000 in
theorem copy_any (w : World) (bf bm bi : Nat) (F : FamD) (h : FamIs w bf bm bi F) (hF : FamLe F) :
    Calls Tryz.prog 39 #[.pointer (some ⟨bf, 0, none⟩)] w (CopyPost w F) := by
  obtain ⟨c0, c1, c2⟩ := h.cell
  have hlf := h.lt (k := bf) (Or.inl rfl)
  have hlm := h.lt (k := bm) (Or.inr (Or.inl rfl))
  have hli := h.lt (k := bi) (Or.inr (Or.inr (Or.inl rfl)))
  obtain ⟨esI, ckI, hbI, hsI, hkI, hLI⟩ := h.iters
  have hm0 := hF.maps
  have hmk := fun W => makeMap_n W F.maps.length
  have KX : Hid (∀ W, Below w.heap.size w W → (W.cell? ⟨bf, 0, none⟩ = some (.int .u64 F.mask) ∧ W.cell? ⟨bf, 1, none⟩ = some (.map (some bm)) ∧ W.cell? ⟨bf, 2, none⟩ = some (.map (some bi)) ∧ (∀ ty, (Builtin.len_ #[100] ty #[.map (some bm)]).run Tryz.prog W = .ok (.int .i64 F.maps.length) W))) := fun W hb =>
    ⟨(hb.cell (p := ⟨bf, _, none⟩) hlf).trans c0, (hb.cell (p := ⟨bf, _, none⟩) hlf).trans c1, (hb.cell (p := ⟨bf, _, none⟩) hlf).trans c2, fun ty => MapIs.len (P := Tryz.prog) Tryz.underlying100 (h.maps.of_block (hb.block bm hlm)) ty⟩
  have CI := Lib.hid (fun W (hb : Below w.heap.size w W) => cloneI_any W bi esI ckI ((hb.block bi hli).trans hbI))
  have BR : Hid (Below w.heap.size w w) := Below.refl _ _
  have BD : Hid (Below w.heap.size w w.drew) := (Below.refl _ _).drew
  have HH := Lib.hid h
  obtain ⟨es, clock, hb, hst, hkv, hen⟩ := fam_entries h.maps
  have hn := h.maps.nodup inj_int
  have HI := Lib.hid (And.intro hsI (And.intro hkI hLI))
  have KV := Lib.hid hkv
  have EN := Lib.hid hen
  have ST := Lib.hid hst
  have HB := Lib.hid hb
  have HN := Lib.hid hn
  clear h c0 c1 c2 hbI hsI hkI hLI hb hst hkv hen hn
  go_enter Tryz.func39, Tryz.ntmps39
  go_upto_region 1 with fail
  go_cut [3] (fun v3 wx => CopyMid w F v3 wx)
  case first =>
    go_region_held3 (fun W => (W.cell? ⟨bf, 0, none⟩ = some (.int .u64 F.mask) ∧ W.cell? ⟨bf, 1, none⟩ = some (.map (some bm)) ∧ W.cell? ⟨bf, 2, none⟩ = some (.map (some bi)) ∧ (∀ ty, (Builtin.len_ #[100] ty #[.map (some bm)]).run Tryz.prog W = .ok (.int .i64 F.maps.length) W))) ((refine KX.out _ ?_; repeat' (first | (with_reducible exact BR.out) | (with_reducible exact BD.out) | (with_reducible refine Below.drew ?_) | (with_reducible refine balw ?_ _)))) ((go_at_call 61; (refine (CI.out _ ?_).mono ?_); (focus (repeat' (first | (with_reducible exact BR.out) | (with_reducible exact BD.out) | (with_reducible refine Below.drew ?_) | (with_reducible refine balw ?_ _)))); rintro e w2 ⟨rfl, rfl⟩))
    all_goals
      go_wp2_with fail
      go_meet
      first
        | exact copy_mid1 HI.out.1 HI.out.2.1 HI.out.2.2
        | exact copy_mid2 HI.out.1 HI.out.2.1 HI.out.2.2
  case rest =>
    obtain ⟨cg, cm, ci, rfl, hfam, ⟨hg1, hg2, hg3⟩, hbx⟩ := hcut
    have hr := range_map Tryz.underlying100 ((hbx.block bm hlm).trans HB.out)
    have HBX := Lib.hid ((hbx.block bm hlm).trans HB.out)
    obtain ⟨y0, y1, y2, _⟩ := KX.out _ hbx
    have hsx := hbx.size
    have FM := Lib.hid hfam
    have BX := Lib.hid hbx
    clear hbx hfam hmk
    go_wp2_with fail
    clear hr y0 y1 y2
    go_loopg [] F.maps.length (fun k wr => CopyRel w bm wc.heap.size es clock F cg cm ci k wr)
    case atStart =>
      have hel : es.toList.length = F.maps.length := by
        have := congrArg List.length KV.out
        simpa using this
      refine ⟨[], es.toList, ⟨F.mask, [], F.iters⟩, hel.symm, by simp, IterIs.start HBX.out ST.out, FM.out.below (balw (Below.refl _ _) _), rfl, rfl, rfl, fun b hb => ?_, balw BX.out _⟩
      have hlt := FM.out.lt hb
      rcases hb with rfl | rfl | rfl | ⟨p, hp, _⟩
      · exact ⟨hg1, by omega⟩
      · exact ⟨hg2, by omega⟩
      · exact ⟨hg3, by omega⟩
      · simp at hp
    case round =>
      obtain ⟨done, rem, G, hk, hperm, hiter, hG, hGm, hGi, hGa, hown, hbw⟩ := hrel
      have hbd : (es.toList.map (·.born)).Nodup := ST.out.2.1
      rcases hiter.next (P := Tryz.prog) 0 with ⟨hnil, hrun⟩ | ⟨e, w3, he, hrun, hent, hit3, ht3⟩
      · subst hnil
        have PP := Lib.hid (hGa ▸ pairs_all HN.out KV.out (by simpa using hperm))
        have GG := Lib.hid (And.intro hG (And.intro hGm (And.intro hGi hown)))
        have BW := Lib.hid hbw
        clear hiter hperm hG hGm hGi hGa hown hbw hk hbd
        go_wp2_with fail
        go_ret
        exact ⟨cg, cm, ci, G, rfl, GG.out.1, GG.out.2.1, GG.out.2.2.1, PP.out, fun b hb => (GG.out.2.2.2 b hb).1, BW.out⟩
      · have hmem : e ∈ es.toList := hperm.subset (List.mem_append_right _ he)
        obtain ⟨⟨x, ⟨r, vals, ro⟩⟩, hp, hkey, hval, hko⟩ := EN.out e hmem
        simp only [mapV] at hkey hval hko
        have hnd : (rem.map (·.born)).Nodup := by
          have := (hperm.map (·.born)).nodup_iff.2 hbd
          rw [List.map_append] at this
          exact (List.nodup_append.1 this).2.1
        have hps := perm_strike hnd he
        have hb3 := turned_below hbw ht3 hsx
        have hit : wc.heap.size < w3.heap.size := by
          obtain ⟨seen, q1, _⟩ := hit3
          exact (Array.getElem?_eq_some_iff.1 q1).1
        have hrl : rem.length = (rem.filter (fun y => y.born != e.born)).length + 1 := by rw [← hps.length_eq]; simp
        obtain ⟨esd, ckd, hbd', hsd, hkd, hLd⟩ := HH.out.vals _ hp
        simp only at hbd' hLd
        have hrl' : r < w.heap.size := (Array.getElem?_eq_some_iff.1 hbd').1
        have G3 : FamIs w3 cg cm ci G := hG.keep fun k hk => ht3.block k (hown k hk).2
        have G4 : FamIs (w3.alloc (.cells #[.map (some r), .bool ro] 99)) cg cm ci G := G3.below (balw (Below.refl _ _) _)
        have hgk : G.maps.map (·.1) = done.map keyOf := by
          have := congrArg (List.map (·.1)) hGa
          simp only [FamD.abs, amap, List.map_map] at this
          exact this
        have hkn : ((done ++ rem).map keyOf).Nodup := (hperm.map keyOf).nodup_iff.2 (by rw [KV.out]; exact HN.out)
        have hnew : alook G.maps x = none := alook_none fun p hp he' => by
          have h1 : p.1 ∈ done.map keyOf := by rw [← hgk]; exact List.mem_map.2 ⟨p, hp, rfl⟩
          rw [List.map_append] at hkn
          exact (List.nodup_append.1 hkn).2.2 _ h1 _ (List.mem_map.2 ⟨e, he, hko⟩) he'
        have CB : Hid ((w3.alloc (.cells #[.map (some r), .bool ro] 99)).heap[r]? = some (.map esd ckd)) := (Below.heap_alloc _ _ _ (Nat.lt_of_lt_of_le hrl' hb3.size)).trans ((hb3.block r hrl').trans hbd')
        obtain ⟨w8, hrun8, hG8, hT8⟩ := copy_step (ro := ro) G4 hnew hsd hkd hLd
        have hcg := G3.lt (k := cg) (Or.inl rfl)
        have hcm := G3.maps.lt
        have hne : cg ≠ cm := map_not_cells G3.maps G3.cells
        have z4 : (w3.alloc (.cells #[.map (some r), .bool ro] 99)).heap.size = w3.heap.size + 1 := by simp
        have KS : ∀ W : World, (∀ q, q < w3.heap.size + 1 → q ≠ cm → W.heap[q]? = (w3.alloc (.cells #[.map (some r), .bool ro] 99)).heap[q]?) → (W.cell? ⟨cg, 1, none⟩ = some (.map (some cm)) ∧ W.cell? ⟨w3.heap.size, 0, none⟩ = some (.map (some r)) ∧ W.cell? ⟨w3.heap.size, 1, none⟩ = some (.bool ro)) := fun W hW =>
          ⟨(World.cell?_of_block (a := ⟨cg, 1, none⟩) (hW cg (by omega) hne)).trans G4.cell.2.1, (World.cell?_of_block (a := ⟨w3.heap.size, 0, none⟩) (hW w3.heap.size (by omega) (by omega))).trans (blk_cell (heap_alloc w3 _).1 0), (World.cell?_of_block (a := ⟨w3.heap.size, 1, none⟩) (hW w3.heap.size (by omega) (by omega))).trans (blk_cell (heap_alloc w3 _).1 1)⟩
        have K1 := Lib.hid (KS (w3.alloc (.cells #[.map (some r), .bool ro] 99)).drew (fun _ _ _ => rfl))
        have K2 := Lib.hid (KS ((w3.alloc (.cells #[.map (some r), .bool ro] 99)).alloc (.map esd ckd)).drew (fun q hq _ => Below.heap_alloc _ _ _ (by omega)))
        have K8 := Lib.hid (KS w8 (fun q hq h2 => (hT8.block q h2).trans (Below.heap_alloc _ _ _ (by omega))))
        have FIN := Lib.hid (And.intro hG8 hT8)
        have PE := Lib.hid (show pairE F e = (x, ⟨vals, ro⟩) by unfold pairE; rw [hko, alook_some HN.out (k := x) (v := ⟨r, vals, ro⟩) hp]; rfl)
        have NW := Lib.hid hnew
        have GA := Lib.hid (And.intro hGa (And.intro hGm (And.intro hGi hown)))
        have PP := Lib.hid (And.intro hperm hps)
        have II := Lib.hid hit3
        have BB := Lib.hid hb3
        have KK := Lib.hid hk
        have RL := Lib.hid hrl
        have y1 := G3.cell.2.1
        rw [hkey, hval] at hrun
        rw [hkey, hval] at hent
        simp only [z4] at hrun8
        clear hiter hperm hG hGm hGi hGa hown hbw hk hbd hmem hkey hval hnd hps hb3 hrl hp ht3 hit3 hbd' hsd hkd hLd G3 G4 hgk hkn hnew hG8 hT8 KS hko he z4
        go_wp2_with fail
        go_region_held3 (fun W => (W.cell? ⟨cg, 1, none⟩ = some (.map (some cm)) ∧ W.cell? ⟨w3.heap.size, 0, none⟩ = some (.map (some r)) ∧ W.cell? ⟨w3.heap.size, 1, none⟩ = some (.bool ro))) (first | exact K1.out | exact K2.out | exact K8.out) ((go_at_call 44; (refine (clone_any _ r esd ckd ?hcb).mono ?_); (case hcb => exact CB.out); rintro e9 w9 ⟨rfl, rfl⟩))
        go_wp2_with fail
        go_roundg (rem.filter (fun y => y.born != e.born)).length
        case measure => rw [KK.out, RL.out]; omega
        case rel =>
          obtain ⟨hG8, hT8⟩ := FIN.out
          obtain ⟨hGa, hGm, hGi, hown⟩ := GA.out
          have hcw := (hown cm (Or.inr (Or.inl rfl)))
          have b4 : Below w.heap.size w ((w3.alloc (.cells #[.map (some r), .bool ro] 99)).alloc (.map esd ckd)).drew := (balw (balw BB.out _) _).drew
          have hbm : bm < w3.heap.size := Nat.lt_of_lt_of_le hlm BB.out.size
          have bl : ∀ q, q < w3.heap.size → q ≠ cm → w8.heap[q]? = w3.heap[q]? := fun q h1 h2 => (hT8.block q h2).trans ((Below.heap_alloc _ _ _ (by simp; omega)).trans (Below.heap_alloc _ _ _ h1))
          refine ⟨done ++ [e], _, _, rfl, ?_, II.out.of_blocks (bl _ hit (Ne.symm hcw.2)) (bl _ hbm (by omega)), hG8, hGm, hGi, ?_, fun b hb => ?_, turned_below b4 hT8 hcw.1⟩
          · have := PP.out
            rw [List.append_assoc]
            exact (List.Perm.append_left done this.2).trans this.1
          · rw [abs_new]
            show aset G.abs.maps x ⟨vals, ro⟩ = _
            have hna : alook G.abs.maps x = none := by rw [show G.abs.maps = amap MapD.abs G.maps from rfl, alook_amap, NW.out]; rfl
            rw [aset_new' hna, hGa, List.map_append, List.map_cons, List.map_nil, PE.out]
          · rcases own_new hb with hb | rfl
            · exact hown b hb
            · have := BB.out.size; simp; omega
end Go.Proofs.YtbmoehndnbbhcaaGreatDoor
namespace Go.Proofs.YtbmoehndnbbhcaaGreatDoor
set_option linter.unusedVariables false
set_option linter.unusedSimpArgs false
open Go
section
variable {P : Program} {ops : Array Oper} {o : Oper} {Q : Exit → Act → World → Prop} {md : Region.Mode} {S : World → Prop}
/-- the post of the beginning: the last operation comes behind it -/
def AtLast (P : Program) (o : Oper) (Q : Exit → Act → World → Prop) : Exit → Act → World → Prop
  | .normal, a, w => o.wp P a w (Q .normal) Q
  | e, a, w => Q e a w
theorem letsOut_last (h : LetsOut (AtLast P o Q)) : LetsOut Q := by
  obtain ⟨a, w, h⟩ := h
  exact ⟨a, w, h⟩
theorem wp_last_post {x : Oper} {a : Act} {w : World} {K : Act → World → Prop} (h : x.wp P a w K (AtLast P o Q)) : x.wp P a w K Q := by
  unfold Oper.wp at *
  generalize (execOp a.eval x).run P w = r at *
  cases r with
  | ok n w' =>
    cases n <;> simp only [Oper.upon] at h ⊢ <;>
      first
        | exact h
        | exact Calls.mono h (fun e w'' he => by cases e <;> first | exact he | exact letsOut_last he)
  | halt x w' => cases x <;> simp only [Oper.upon] at h ⊢ <;> exact h
/-- no guards; each operation waits for earlier ones alone; the last one waits for all -/
def lastB (md : Region.Mode) (ops : Array Oper) (o : Oper) : Bool :=
  (List.range ops.size).all (fun i => ((ops[i]?).map fun x => x.guard.isNone && x.after.all (fun e => decide (e.on < i))).getD false) &&
  o.guard.isNone && o.after.all (fun e => decide (e.on < ops.size)) && (List.range ops.size).all (fun i => o.after.any fun e => Region.binds md e && e.on == i)
structure LastOk (md : Region.Mode) (ops : Array Oper) (o : Oper) : Prop where
  one : ∀ (i : Nat) (x : Oper), ops[i]? = some x → x.guard = none ∧ ∀ e ∈ x.after, e.on < i
  guard : o.guard = none
  below : ∀ e ∈ o.after, e.on < ops.size
  waits : ∀ i, i < ops.size → ∃ e ∈ o.after, Region.binds md e = true ∧ e.on = i
theorem lastB_ok (h : lastB md ops o = true) : LastOk md ops o := by
  unfold lastB at h
  simp only [Bool.and_eq_true, List.all_eq_true, List.mem_range, Array.all_eq_true', Array.any_eq_true', decide_eq_true_eq, Option.isNone_iff_eq_none, beq_iff_eq] at h
  obtain ⟨⟨⟨h1, h2⟩, h3⟩, h4⟩ := h
  refine ⟨fun i x hx => ?_, h2, h3, fun i hi => ?_⟩
  · have hi := (Array.getElem?_eq_some_iff.1 hx).1
    have := h1 i hi
    rw [hx] at this
    simp only [Option.map_some, Option.getD_some, Bool.and_eq_true, Option.isNone_iff_eq_none, Array.all_eq_true', decide_eq_true_eq] at this
    exact this
  · obtain ⟨e, he, hb, hon⟩ := h4 i hi
    exact ⟨e, he, hb, hon⟩
theorem push_get {i : Nat} (h : i < ops.size) : (ops.push o)[i]? = ops[i]? := by
  rw [Array.getElem?_push]
  rw [if_neg (by omega)]
theorem push_old {l : Array Bool} {i : Nat} (h : i < l.size) (b : Bool) : (l.push false).getD i b = l.getD i b := by
  simp only [Array.getD_eq_getD_getElem?, Array.getElem?_push]
  rw [if_neg (by omega)]
theorem getD_in' {l : Array Bool} {i : Nat} (h : i < l.size) (b c : Bool) : l.getD i b = l.getD i c := by
  simp [Array.getD_eq_getD_getElem?, h]
theorem ready_push (ok : LastOk md ops o) {l : Array Bool} (hl : l.size = ops.size) {i : Nat} (h : i ∈ Region.ready md (ops.push o) (l.push false)) : i ∈ Region.ready md ops l ∨ (i = ops.size ∧ ∀ j, j < ops.size → l.getD j true = true) := by
  obtain ⟨hun, x, hx, hall⟩ := mem_ready.1 h
  by_cases hi : i < ops.size
  · rw [push_get hi] at hx
    rw [push_old (by omega)] at hun
    refine Or.inl (mem_ready.2 ⟨hun, x, hx, fun e he hb => ?_⟩)
    have := hall e he hb
    rwa [push_old (by have := (ok.one i x hx).2 e he; omega)] at this
  · have hs := (Array.getElem?_eq_some_iff.1 hx).1
    have hin : i = ops.size := by
      simp at hs
      omega
    subst hin
    obtain rfl : o = x := by simpa using hx
    refine Or.inr ⟨rfl, fun j hj => ?_⟩
    obtain ⟨e, he, hb, hon⟩ := ok.waits j hj
    have := hall e he hb
    rw [hon, push_old (by omega)] at this
    rw [getD_in' (by omega) true false]
    exact this
theorem all_listed (ok : LastOk md ops o) {l : Array Bool} (hl : l.size = ops.size) (h : Region.ready md ops l = []) : ∀ j, j < ops.size → l.getD j true = true := by
  intro j
  induction j using Nat.strongRecOn with
  | ind j ih =>
    intro hj
    cases hc : l.getD j true with
    | true => rfl
    | false =>
      have hx : ops[j]? = some ops[j] := Array.getElem?_eq_getElem hj
      have : j ∈ Region.ready md ops l := mem_ready.2 ⟨hc, _, hx, fun e he hb => by
        have hlt := (ok.one j _ hx).2 e he
        have := ih e.on hlt (by omega)
        rw [getD_in' (by omega) true false] at this
        exact this⟩
      rw [h] at this
      cases this
theorem last_ready (ok : LastOk md ops o) {l : Array Bool} (hl : l.size = ops.size) (h : ∀ j, j < ops.size → l.getD j true = true) : ops.size ∈ Region.ready md (ops.push o) (l.push false) := by
  refine mem_ready.2 ⟨?_, o, by simp, fun e he hb => ?_⟩
  · rw [Array.getD_eq_getD_getElem?, Array.getElem?_push, if_pos hl.symm]
    rfl
  · have hlt := ok.below e he
    rw [push_old (by omega), getD_in' (by omega) false true]
    exact h _ hlt
theorem wpAny_over {l : Array Bool} {a : Act} {w : World} (hr : Region.ready md ops l = []) (h : Q .normal a w) : ∀ fuel, wpAny P md ops Q fuel l a w
  | 0 => ⟨hr, h⟩
  | _ + 1 => ⟨fun _ => h, by rw [hr]; simp⟩
theorem wpOp_push (ok : LastOk md ops o) {i : Nat} (hi : i < ops.size) {K : Act → World → Prop} {a : Act} {w : World} (h : wpOp P ops (AtLast P o Q) i K a w) : wpOp P (ops.push o) Q i K a w := by
  unfold wpOp at h ⊢
  rw [push_get hi]
  have hx : ops[i]? = some ops[i] := Array.getElem?_eq_getElem hi
  rw [hx] at h ⊢
  have hg := (ok.one i _ hx).1
  have hw : ∀ y, Region.wanted ops[i] y = true := fun y => by simp [Region.wanted, hg]
  simp only [hw, if_true] at h ⊢
  rcases h with h | ⟨h1, h2⟩
  · exact Or.inl (wp_last_post h)
  · exact Or.inr ⟨h1, letsOut_last h2⟩
theorem none_ready {l : Array Bool} (h : ∀ j, j < ops.size → l.getD j true = true) : Region.ready md ops l = [] := by
  apply List.eq_nil_iff_forall_not_mem.2
  intro i hi
  obtain ⟨hun, x, hx, _⟩ := mem_ready.1 hi
  rw [h i (Array.getElem?_eq_some_iff.1 hx).1] at hun
  cases hun
theorem last_step (ok : LastOk md ops o) {l : Array Bool} (hl : l.size = ops.size) (h : ∀ j, j < ops.size → l.getD j true = true) (fuel : Nat) {a : Act} {w : World} (hn : o.wp P a w (Q .normal) Q) : wpOp P (ops.push o) Q ops.size (wpAny P md (ops.push o) Q fuel ((l.push false).setIfInBounds ops.size true)) a w := by
  unfold wpOp
  have hx : (ops.push o)[ops.size]? = some o := by simp
  have hw : ∀ y, Region.wanted o y = true := fun y => by simp [Region.wanted, ok.guard]
  rw [hx]
  simp only [hw, if_true]
  refine Or.inl (Oper.wp_mono (fun a' w' h' => wpAny_over (none_ready fun j hj => ?_) h' fuel) hn)
  by_cases hj' : j < ops.size
  · have := h j hj'
    simp only [Array.getD_eq_getD_getElem?] at this ⊢
    rw [Array.getElem?_setIfInBounds_ne (by omega), Array.getElem?_push, if_neg (by omega)]
    exact this
  · have : j = ops.size := by simp at hj; omega
    subst this
    simp [Array.getD_eq_getD_getElem?, Array.getElem?_setIfInBounds_self, hl]
theorem wpAny_of_last (ok : LastOk md ops o) : ∀ (fuel : Nat) (l : Array Bool) (a : Act) (w : World), l.size = ops.size → wpAnyH P md ops (AtLast P o Q) S fuel l a w → wpAny P md (ops.push o) Q (fuel + 1) (l.push false) a w := by
  intro fuel
  induction fuel with
  | zero =>
    intro l a w hl h
    have hall := all_listed ok hl h.1
    refine ⟨fun hr => ?_, fun i hi => ?_⟩
    · have := last_ready ok hl hall
      rw [hr] at this
      cases this
    · rcases ready_push ok hl hi with hi | ⟨rfl, _⟩
      · rw [h.1] at hi
        cases hi
      · exact last_step ok hl hall 0 h.2
  | succ fuel ih =>
    intro l a w hl h
    refine ⟨fun hr => ?_, fun i hi => ?_⟩
    · have hn : Region.ready md ops l = [] := by
        apply List.eq_nil_iff_forall_not_mem.2
        intro i hi
        obtain ⟨hun, x, hx, hall⟩ := mem_ready.1 hi
        have hi' := (Array.getElem?_eq_some_iff.1 hx).1
        have : i ∈ Region.ready md (ops.push o) (l.push false) := mem_ready.2 ⟨by rw [push_old (by omega)]; exact hun, x, by rw [push_get hi']; exact hx, fun e he hb => by
          rw [push_old (by have := (ok.one i x hx).2 e he; omega)]
          exact hall e he hb⟩
        rw [hr] at this
        cases this
      have := last_ready ok hl (all_listed ok hl hn)
      rw [hr] at this
      cases this
    · rcases ready_push ok hl hi with hi | ⟨rfl, hall⟩
      · obtain ⟨hun, x, hx, _⟩ := mem_ready.1 hi
        have hi' := (Array.getElem?_eq_some_iff.1 hx).1
        have h1 := wpOp_push ok hi' (h.2 i hi)
        refine wpOp_mono (fun a' w' h' => ?_) h1
        have h2 := ih _ a' w' (by simp [hl]) h'.2
        have e : (l.setIfInBounds i true).push false = (l.push false).setIfInBounds i true := by
          apply Array.ext_getElem?
          intro j
          simp only [Array.getElem?_push, Array.getElem?_setIfInBounds, Array.size_setIfInBounds, Array.size_push]
          by_cases hj : i = j
          · subst hj
            rw [if_neg (by omega), if_pos rfl, if_pos rfl, if_pos (by omega), if_pos (by omega)]
          · rw [if_neg hj, if_neg hj]
        rw [← e]
        exact h2
      · exact last_step ok hl hall (fuel + 1) (h.1 (none_ready hall))
theorem wp_region_last {id : Nat} {a : Act} {w : World} {ops0 : Array Oper} (S : World → Prop) (hm : P.follows .mixedOrders = true) (h0 : ops = ops0.push o) (hB : lastB .any ops0 o = true) (hS : S w.drew)
    (h : S w.drew → wpAnyH P .any ops0 (AtLast P o Q) S ops0.size (Array.replicate ops0.size false) a w.drew) : (Code.region id ops true).wp P Q a w := by
  subst h0
  refine wp_region_any hm ?_
  have := wpAny_of_last (lastB_ok hB) _ _ _ _ (by simp) (h hS)
  have e : (Array.replicate ops0.size false).push false = Array.replicate (ops0.push o).size false := by
    rw [Array.size_push, Array.replicate_succ]
  rw [e] at this
  rw [show (ops0.push o).size = ops0.size + 1 by simp] at this ⊢
  exact this
theorem wp_region_last_lit {id : Nat} {a : Act} {w : World} {l : List Oper} (S : World → Prop) (n : Nat) (hm : P.follows .mixedOrders = true) (hn : l.length = n + 1) (h0 : l[n]? = some o) (hB : lastB .any l.dropLast.toArray o = true) (hS : S w.drew)
    (h : S w.drew → wpAnyH P .any l.dropLast.toArray (AtLast P o Q) S l.dropLast.length (Array.replicate l.dropLast.length false) a w.drew) : (Code.region id l.toArray true).wp P Q a w := by
  refine wp_region_last (o := o) (ops0 := l.dropLast.toArray) S hm ?_ hB hS h
  have : l = l.dropLast ++ [o] := by
    have hne : l ≠ [] := fun e => by rw [e] at hn; simp at hn
    have hl : l.getLast? = some o := by rw [List.getLast?_eq_getElem?, hn, Nat.add_sub_cancel, h0]
    rw [List.getLast?_eq_some_getLast hne] at hl
    rw [← Option.some.inj hl, List.dropLast_concat_getLast]
  rw [List.push_toArray, ← this]
/-- the moves over an array that is written out -/
theorem take_at {l : List Oper} {i : Nat} {oi : Oper} {v : Value} {fuel : Nat} {listed : Array Bool} {a : Act} {w : World} (hi : l[i]? = some oi) (hs : Region.noSelect l.toArray = true) (hf : Region.free md l.toArray listed i = true) (hr : (Region.ready md l.toArray listed).contains i = true)
    (hQ : ∀ c a w, Q (.panic c) (a.put oi.dst v) w → Q (.panic c) a w) (hw : Region.wanted oi (yielded l.toArray a.tmps) = true) (hy : ∀ w, S w → (execOp a.eval oi).run P w = .ok (.value v) w) (hS : S w)
    (h : wpAnyH P md l.toArray Q S fuel (listed.setIfInBounds i true) (a.put oi.dst v) w) : wpAnyH P md l.toArray Q S (fuel + 1) listed a w :=
  wpAnyH_take (by simpa using hi) hs hf hr hQ (Or.inl ⟨hw, hy⟩) hS h
theorem cons_at {l : List Oper} {fuel : Nat} {listed : Array Bool} {a : Act} {w : World} {i : Nat} {o : Oper} {rs : List Nat} (ho : l[i]? = some o)
    (h : ∀ K' : Act → World → Prop, Shut (∀ a w, S w → (S w → wpAnyH P md l.toArray Q S fuel (listed.setIfInBounds i true) a w) → K' a w) → if Region.wanted o (yielded l.toArray a.tmps) = true then Oper.wp P o a w K' Q else K' (a.put o.dst undef) w)
    (hs : AllReadyH P md l.toArray Q S fuel listed a w rs) : AllReadyH P md l.toArray Q S fuel listed a w (i :: rs) :=
  AllReadyH.cons (by simpa using ho) h hs
end
end Go.Proofs.YtbmoehndnbbhcaaGreatDoor
