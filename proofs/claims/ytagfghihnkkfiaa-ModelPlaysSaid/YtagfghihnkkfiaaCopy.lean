/- The walk of package model's Copy. -/
import Derived.Test.YtagfghihnkkfiaaMEqF
import Derived.Test.YtagfghihnkkfiaaApH
import Derived.Test.YtagfghihnkkfiaaHand
import Derived.Test.YtagfghihnkkfiaaModP
import Derived.Deep.RegionHeld3
namespace Go.Proofs.Ytagfghihnkkfiaa
set_option linter.unusedVariables false
set_option linter.unusedSimpArgs false
open Go Go.RowKit Go.MapKept
theorem cloneI_any (w : World) (r : Nat) (es : Array MapEntry) (clock : Nat) (hb : w.heap[r]? = some (.map es clock)) :
    Calls Try.prog 38 #[.map (some r)] w fun e w' => e = .returned (.map (some w.heap.size)) ∧ w' = w.alloc (.map es clock) :=
  AnyW.maps_Clone Try.cloneI r es clock w hb
theorem balw {a w : World} (h : Below a.heap.size a w) (o : Obj) : Below a.heap.size a (w.alloc o) := h.alloc h.size o
theorem makeMap_n (w : World) (n : Nat) : (Instr.makeMap 75 (some (.int .i64 n))).run Try.prog w = .ok (.map (some w.heap.size)) (w.alloc (.map #[] 0)) := by
  simp [Instr.makeMap, run_underlying Try.underlying75, Result.andThen, go_sem, asInt]
/-- the copy that has no maps yet -/
def CopyMid (w : World) (F : FamD) (v : Value) (wx : World) : Prop :=
  ∃ cg cm ci, v = .pointer (some ⟨cg, 0, none⟩) ∧ FamIs wx cg cm ci ⟨F.mask, [], F.iters⟩ ∧ (w.heap.size ≤ cg ∧ w.heap.size ≤ cm ∧ w.heap.size ≤ ci) ∧ Below w.heap.size w wx
theorem copy_mid1 {w : World} {F : FamD} {es : Array MapEntry} {ck : Nat} (hs : Stamped es ck) (hk : ∀ x ∈ es.toList, IsKey (.int .i64) x.key) (hL : es.toList.map (fun e => (e.key, e.val)) = F.iters.map (fun p => (Value.int .i64 p.1, itV p.2))) :
    CopyMid w F (.pointer (some ⟨w.heap.size + 1 + 1, 0, none⟩)) (((w.alloc (.map #[] 0)).alloc (.map es ck)).alloc (.cells #[.int .u64 F.mask, .map (some w.heap.size), .map (some (w.heap.size + 1))] 78)).drew := by
  have z1 : (w.alloc (.map #[] 0)).heap.size = w.heap.size + 1 := by simp
  have z2 : ((w.alloc (.map #[] 0)).alloc (.map es ck)).heap.size = w.heap.size + 1 + 1 := by simp
  refine ⟨_, w.heap.size, w.heap.size + 1, rfl, ?_, ⟨by omega, by omega, by omega⟩, (balw (balw (balw (Below.refl _ _) _) _) _).drew⟩
  have hf : FamIs (((w.alloc (.map #[] 0)).alloc (.map es ck)).alloc (.cells #[.int .u64 F.mask, .map (some w.heap.size), .map (some (w.heap.size + 1))] 78)) (w.heap.size + 1 + 1) w.heap.size (w.heap.size + 1) ⟨F.mask, [], F.iters⟩ := by
    refine ⟨?_, ?_, ?_, fun p hp => by simp at hp, by simp⟩
    · rw [← z2]
      exact (heap_alloc _ _).1
    · exact ((MapIs.made (κ := Int) (β := MapD) w _ _ _).alloc _).alloc _
    · refine MapIs.alloc (w := (w.alloc (.map #[] 0)).alloc (.map es ck)) ⟨es, ck, ?_, hs, hk, hL⟩ _
      rw [← z1]
      exact (heap_alloc _ _).1
  exact hf.keep fun _ _ => rfl
theorem copy_mid2 {w : World} {F : FamD} {es : Array MapEntry} {ck : Nat} (hs : Stamped es ck) (hk : ∀ x ∈ es.toList, IsKey (.int .i64) x.key) (hL : es.toList.map (fun e => (e.key, e.val)) = F.iters.map (fun p => (Value.int .i64 p.1, itV p.2))) :
    CopyMid w F (.pointer (some ⟨w.heap.size + 1 + 1, 0, none⟩)) (((w.alloc (.map es ck)).alloc (.map #[] 0)).alloc (.cells #[.int .u64 F.mask, .map (some (w.heap.size + 1)), .map (some w.heap.size)] 78)).drew := by
  have z1 : (w.alloc (.map es ck)).heap.size = w.heap.size + 1 := by simp
  have z2 : ((w.alloc (.map es ck)).alloc (.map #[] 0)).heap.size = w.heap.size + 1 + 1 := by simp
  refine ⟨_, w.heap.size + 1, w.heap.size, rfl, ?_, ⟨by omega, by omega, by omega⟩, (balw (balw (balw (Below.refl _ _) _) _) _).drew⟩
  have hf : FamIs (((w.alloc (.map es ck)).alloc (.map #[] 0)).alloc (.cells #[.int .u64 F.mask, .map (some (w.heap.size + 1)), .map (some w.heap.size)] 78)) (w.heap.size + 1 + 1) (w.heap.size + 1) w.heap.size ⟨F.mask, [], F.iters⟩ := by
    refine ⟨?_, ?_, ?_, fun p hp => by simp at hp, by simp⟩
    · rw [← z2]
      exact (heap_alloc _ _).1
    · have := ((MapIs.made (κ := Int) (β := MapD) (w.alloc (.map es ck)) (.int .i64) (Value.int .i64) mapV).alloc (.cells #[.int .u64 F.mask, .map (some (w.heap.size + 1)), .map (some w.heap.size)] 78))
      rw [z1] at this
      exact this
    · exact (MapIs.alloc (w := w.alloc (.map es ck)) ⟨es, ck, (heap_alloc _ _).1, hs, hk, hL⟩ _).alloc _
  exact hf.keep fun _ _ => rfl
theorem fam_entries {w : World} {r : Nat} {L : List (Int × MapD)} (h : MapIs w r (.int .i64) (Value.int .i64) mapV L) :
    ∃ es clock, w.heap[r]? = some (.map es clock) ∧ Stamped es clock ∧ es.toList.map keyOf = L.map (·.1) ∧ ∀ e ∈ es.toList, ∃ p ∈ L, e.key = .int .i64 p.1 ∧ e.val = mapV p.2 ∧ keyOf e = p.1 := by
  obtain ⟨es, clock, hb, hs, hk, hL⟩ := h
  refine ⟨es, clock, hb, hs, ?_, fun e he => ?_⟩
  · have h1 := congrArg (List.map (fun p : Value × Value => match p.1 with | .int _ k => k | _ => 0)) hL
    simp only [List.map_map] at h1
    exact h1
  · have : (e.key, e.val) ∈ L.map (fun p => (Value.int .i64 p.1, mapV p.2)) := by rw [← hL]; exact List.mem_map.2 ⟨e, he, rfl⟩
    obtain ⟨p, hp, hpe⟩ := List.mem_map.1 this
    simp only [Prod.mk.injEq] at hpe
    exact ⟨p, hp, hpe.1.symm, hpe.2.symm, by rw [keyOf, ← hpe.1]⟩
/-- what the copy of an entry holds -/
def pairE (F : FamD) (e : MapEntry) : Int × AMap := (keyOf e, ((alook F.maps (keyOf e)).map MapD.abs).getD ⟨[], false⟩)
def CopyRel (w : World) (bm it : Nat) (es : Array MapEntry) (clock : Nat) (F : FamD) (cg cm ci : Nat) (k : Nat) (wr : World) : Prop :=
  ∃ (done rem : List MapEntry) (G : FamD), k = rem.length ∧ (done ++ rem).Perm es.toList ∧ IterIs wr it bm es clock rem ∧ FamIs wr cg cm ci G ∧ G.mask = F.mask ∧ G.iters = F.iters ∧ G.abs.maps = done.map (pairE F) ∧ (∀ b, G.own cg cm ci b → w.heap.size ≤ b ∧ b ≠ it) ∧ Below w.heap.size w wr
/-- what Copy leaves -/
def CopyPost (w : World) (F : FamD) (e : Ending) (w' : World) : Prop :=
  ∃ (cg cm ci : Nat) (G : FamD), e = .returned (.pointer (some ⟨cg, 0, none⟩)) ∧ FamIs w' cg cm ci G ∧ G.mask = F.mask ∧ G.iters = F.iters ∧ G.abs.maps.Perm F.abs.maps ∧ (∀ b, G.own cg cm ci b → w.heap.size ≤ b) ∧ Below w.heap.size w w'
theorem pairs_all {F : FamD} {es : Array MapEntry} {done : List MapEntry} (hn : (F.maps.map (·.1)).Nodup) (hkv : es.toList.map keyOf = F.maps.map (·.1)) (hp : done.Perm es.toList) : (done.map (pairE F)).Perm F.abs.maps := by
  have e1 : es.toList.map (pairE F) = F.abs.maps := by
    have : es.toList.map (pairE F) = (es.toList.map keyOf).map (fun k => (k, ((alook F.maps k).map MapD.abs).getD ⟨[], false⟩)) := by rw [List.map_map]; rfl
    rw [this, hkv, List.map_map]
    show _ = F.maps.map (fun p => (p.1, p.2.abs))
    refine List.map_congr_left fun p hp => ?_
    simp only [Function.comp]
    rw [alook_some hn (k := p.1) (v := p.2) hp]
    rfl
  rw [← e1]
  exact hp.map _
theorem copy_step {W : World} {cg cm ci : Nat} {G : FamD} {n : Int} {es : Array MapEntry} {ck : Nat} {vals : List (ByteArray × Int)} {ro : Bool} (hG : FamIs W cg cm ci G) (hnew : alook G.maps n = none) (hs : Stamped es ck) (hk : ∀ x ∈ es.toList, IsKey .string x.key) (hL : es.toList.map (fun e => (e.key, e.val)) = vals.map (fun p => (Value.string p.1, Value.int .u64 p.2))) :
    ∃ w8, (Instr.mapUpdate 75 (.map (some cm)) (.int .i64 n) (.agg #[.map (some W.heap.size), .bool ro])).run Try.prog (W.alloc (.map es ck)).drew = .ok () w8 ∧ FamIs w8 cg cm ci { G with maps := aset G.maps n ⟨W.heap.size, vals, ro⟩ } ∧ Turned cm (W.alloc (.map es ck)).drew w8 := by
  have mi : MapIs (W.alloc (.map es ck)).drew cm (.int .i64) (Value.int .i64) mapV G.maps := hG.maps.alloc _
  obtain ⟨ob, hrun, hmi⟩ := mi.update (P := Try.prog) key_int inj_int Try.underlying75 Try.underlying3 n ⟨W.heap.size, vals, ro⟩
  have hT := Turned.mk' (w := (W.alloc (.map es ck)).drew) cm ob
  have hva : ValsIs (W.alloc (.map es ck)).drew W.heap.size vals := ⟨es, ck, (heap_alloc W _).1, hs, hk, hL⟩
  have hcm : cm < W.heap.size := hG.maps.lt
  refine ⟨_, hrun, ?_, hT⟩
  exact hG.new_map hnew (fun k hk hne => (hT.block k hne).trans (Below.heap_alloc _ _ _ hk)) hmi (Nat.le_refl _) (hva.of_block (hT.block _ (by show W.heap.size ≠ cm; omega)))
set_option maxRecDepth 100000 in
set_option maxHeartbeats 2000000 in
theorem copy_any (w : World) (bf bm bi : Nat) (F : FamD) (h : FamIs w bf bm bi F) (hF : FamLe F) :
    Calls Try.prog 24 #[.pointer (some ⟨bf, 0, none⟩)] w (CopyPost w F) := by
  obtain ⟨c0, c1, c2⟩ := h.cell
  have hlf := h.lt (k := bf) (Or.inl rfl)
  have hlm := h.lt (k := bm) (Or.inr (Or.inl rfl))
  have hli := h.lt (k := bi) (Or.inr (Or.inr (Or.inl rfl)))
  obtain ⟨esI, ckI, hbI, hsI, hkI, hLI⟩ := h.iters
  have hm0 := hF.maps
  have hmk := fun W => makeMap_n W F.maps.length
  have KX : Hid (∀ W, Below w.heap.size w W → (W.cell? ⟨bf, 0, none⟩ = some (.int .u64 F.mask) ∧ W.cell? ⟨bf, 1, none⟩ = some (.map (some bm)) ∧ W.cell? ⟨bf, 2, none⟩ = some (.map (some bi)) ∧ (∀ ty, (Builtin.len_ #[75] ty #[.map (some bm)]).run Try.prog W = .ok (.int .i64 F.maps.length) W))) := fun W hb =>
    ⟨(hb.cell (p := ⟨bf, _, none⟩) hlf).trans c0, (hb.cell (p := ⟨bf, _, none⟩) hlf).trans c1, (hb.cell (p := ⟨bf, _, none⟩) hlf).trans c2, fun ty => MapIs.len (P := Try.prog) Try.underlying75 (h.maps.of_block (hb.block bm hlm)) ty⟩
  have CI := Lib.hid (fun W (hb : Below w.heap.size w W) => cloneI_any W bi esI ckI ((hb.block bi hli).trans hbI))
  have BR : Hid (Below w.heap.size w w) := Below.refl _ _
  have BD : Hid (Below w.heap.size w w.drew) := (Below.refl _ _).drew
  have HH := Lib.hid h
  obtain ⟨es, clock, hb, hst, hkv, hen⟩ := fam_entries h.maps
  have hn := h.maps.nodup inj_int
  have HI := Lib.hid (And.intro hsI (And.intro hkI hLI))
  have KV := Lib.hid hkv
  have EN := Lib.hid hen
  have ST := Lib.hid hst
  have HB := Lib.hid hb
  have HN := Lib.hid hn
  clear h c0 c1 c2 hbI hsI hkI hLI hb hst hkv hen hn
  go_enter Try.func24, Try.ntmps24
  go_upto_region 1 with fail
  go_cut [3] (fun v3 wx => CopyMid w F v3 wx)
  case first =>
    go_region_held3 (fun W => (W.cell? ⟨bf, 0, none⟩ = some (.int .u64 F.mask) ∧ W.cell? ⟨bf, 1, none⟩ = some (.map (some bm)) ∧ W.cell? ⟨bf, 2, none⟩ = some (.map (some bi)) ∧ (∀ ty, (Builtin.len_ #[75] ty #[.map (some bm)]).run Try.prog W = .ok (.int .i64 F.maps.length) W))) ((refine KX.out _ ?_; repeat' (first | (with_reducible exact BR.out) | (with_reducible exact BD.out) | (with_reducible refine Below.drew ?_) | (with_reducible refine balw ?_ _)))) ((go_at_call 38; (refine (CI.out _ ?_).mono ?_); (focus (repeat' (first | (with_reducible exact BR.out) | (with_reducible exact BD.out) | (with_reducible refine Below.drew ?_) | (with_reducible refine balw ?_ _)))); rintro e w2 ⟨rfl, rfl⟩))
    all_goals
      go_wp2_with fail
      go_meet
      first
        | exact copy_mid1 HI.out.1 HI.out.2.1 HI.out.2.2
        | exact copy_mid2 HI.out.1 HI.out.2.1 HI.out.2.2
  case rest =>
    obtain ⟨cg, cm, ci, rfl, hfam, ⟨hg1, hg2, hg3⟩, hbx⟩ := hcut
    have hr := range_map Try.underlying75 ((hbx.block bm hlm).trans HB.out)
    have HBX := Lib.hid ((hbx.block bm hlm).trans HB.out)
    obtain ⟨y0, y1, y2, _⟩ := KX.out _ hbx
    have hsx := hbx.size
    have FM := Lib.hid hfam
    have BX := Lib.hid hbx
    clear hbx hfam hmk
    go_wp2_with fail
    clear hr y0 y1 y2
    go_loopg [] F.maps.length (fun k wr => CopyRel w bm wc.heap.size es clock F cg cm ci k wr)
    case atStart =>
      have hel : es.toList.length = F.maps.length := by
        have := congrArg List.length KV.out
        simpa using this
      refine ⟨[], es.toList, ⟨F.mask, [], F.iters⟩, hel.symm, by simp, IterIs.start HBX.out ST.out, FM.out.below (balw (Below.refl _ _) _), rfl, rfl, rfl, fun b hb => ?_, balw BX.out _⟩
      have hlt := FM.out.lt hb
      rcases hb with rfl | rfl | rfl | ⟨p, hp, _⟩
      · exact ⟨hg1, by omega⟩
      · exact ⟨hg2, by omega⟩
      · exact ⟨hg3, by omega⟩
      · simp at hp
    case round =>
      obtain ⟨done, rem, G, hk, hperm, hiter, hG, hGm, hGi, hGa, hown, hbw⟩ := hrel
      have hbd : (es.toList.map (·.born)).Nodup := ST.out.2.1
      rcases hiter.next (P := Try.prog) 0 with ⟨hnil, hrun⟩ | ⟨e, w3, he, hrun, hent, hit3, ht3⟩
      · subst hnil
        have PP := Lib.hid (hGa ▸ pairs_all HN.out KV.out (by simpa using hperm))
        have GG := Lib.hid (And.intro hG (And.intro hGm (And.intro hGi hown)))
        have BW := Lib.hid hbw
        clear hiter hperm hG hGm hGi hGa hown hbw hk hbd
        go_wp2_with fail
        go_ret
        exact ⟨cg, cm, ci, G, rfl, GG.out.1, GG.out.2.1, GG.out.2.2.1, PP.out, fun b hb => (GG.out.2.2.2 b hb).1, BW.out⟩
      · have hmem : e ∈ es.toList := hperm.subset (List.mem_append_right _ he)
        obtain ⟨⟨x, ⟨r, vals, ro⟩⟩, hp, hkey, hval, hko⟩ := EN.out e hmem
        simp only [mapV] at hkey hval hko
        have hnd : (rem.map (·.born)).Nodup := by
          have := (hperm.map (·.born)).nodup_iff.2 hbd
          rw [List.map_append] at this
          exact (List.nodup_append.1 this).2.1
        have hps := perm_strike hnd he
        have hb3 := turned_below hbw ht3 hsx
        have hit : wc.heap.size < w3.heap.size := by
          obtain ⟨seen, q1, _⟩ := hit3
          exact (Array.getElem?_eq_some_iff.1 q1).1
        have hrl : rem.length = (rem.filter (fun y => y.born != e.born)).length + 1 := by rw [← hps.length_eq]; simp
        obtain ⟨esd, ckd, hbd', hsd, hkd, hLd⟩ := HH.out.vals _ hp
        simp only at hbd' hLd
        have hrl' : r < w.heap.size := (Array.getElem?_eq_some_iff.1 hbd').1
        have G3 : FamIs w3 cg cm ci G := hG.keep fun k hk => ht3.block k (hown k hk).2
        have G4 : FamIs (w3.alloc (.cells #[.map (some r), .bool ro] 74)) cg cm ci G := G3.below (balw (Below.refl _ _) _)
        have hgk : G.maps.map (·.1) = done.map keyOf := by
          have := congrArg (List.map (·.1)) hGa
          simp only [FamD.abs, amap, List.map_map] at this
          exact this
        have hkn : ((done ++ rem).map keyOf).Nodup := (hperm.map keyOf).nodup_iff.2 (by rw [KV.out]; exact HN.out)
        have hnew : alook G.maps x = none := alook_none fun p hp he' => by
          have h1 : p.1 ∈ done.map keyOf := by rw [← hgk]; exact List.mem_map.2 ⟨p, hp, rfl⟩
          rw [List.map_append] at hkn
          exact (List.nodup_append.1 hkn).2.2 _ h1 _ (List.mem_map.2 ⟨e, he, hko⟩) he'
        have CB : Hid ((w3.alloc (.cells #[.map (some r), .bool ro] 74)).heap[r]? = some (.map esd ckd)) := (Below.heap_alloc _ _ _ (Nat.lt_of_lt_of_le hrl' hb3.size)).trans ((hb3.block r hrl').trans hbd')
        obtain ⟨w8, hrun8, hG8, hT8⟩ := copy_step (ro := ro) G4 hnew hsd hkd hLd
        have hcg := G3.lt (k := cg) (Or.inl rfl)
        have hcm := G3.maps.lt
        have hne : cg ≠ cm := map_not_cells G3.maps G3.cells
        have z4 : (w3.alloc (.cells #[.map (some r), .bool ro] 74)).heap.size = w3.heap.size + 1 := by simp
        have KS : ∀ W : World, (∀ q, q < w3.heap.size + 1 → q ≠ cm → W.heap[q]? = (w3.alloc (.cells #[.map (some r), .bool ro] 74)).heap[q]?) → (W.cell? ⟨cg, 1, none⟩ = some (.map (some cm)) ∧ W.cell? ⟨w3.heap.size, 0, none⟩ = some (.map (some r)) ∧ W.cell? ⟨w3.heap.size, 1, none⟩ = some (.bool ro)) := fun W hW =>
          ⟨(World.cell?_of_block (a := ⟨cg, 1, none⟩) (hW cg (by omega) hne)).trans G4.cell.2.1, (World.cell?_of_block (a := ⟨w3.heap.size, 0, none⟩) (hW w3.heap.size (by omega) (by omega))).trans (blk_cell (heap_alloc w3 _).1 0), (World.cell?_of_block (a := ⟨w3.heap.size, 1, none⟩) (hW w3.heap.size (by omega) (by omega))).trans (blk_cell (heap_alloc w3 _).1 1)⟩
        have K1 := Lib.hid (KS (w3.alloc (.cells #[.map (some r), .bool ro] 74)).drew (fun _ _ _ => rfl))
        have K2 := Lib.hid (KS ((w3.alloc (.cells #[.map (some r), .bool ro] 74)).alloc (.map esd ckd)).drew (fun q hq _ => Below.heap_alloc _ _ _ (by omega)))
        have K8 := Lib.hid (KS w8 (fun q hq h2 => (hT8.block q h2).trans (Below.heap_alloc _ _ _ (by omega))))
        have FIN := Lib.hid (And.intro hG8 hT8)
        have PE := Lib.hid (show pairE F e = (x, ⟨vals, ro⟩) by unfold pairE; rw [hko, alook_some HN.out (k := x) (v := ⟨r, vals, ro⟩) hp]; rfl)
        have NW := Lib.hid hnew
        have GA := Lib.hid (And.intro hGa (And.intro hGm (And.intro hGi hown)))
        have PP := Lib.hid (And.intro hperm hps)
        have II := Lib.hid hit3
        have BB := Lib.hid hb3
        have KK := Lib.hid hk
        have RL := Lib.hid hrl
        have y1 := G3.cell.2.1
        rw [hkey, hval] at hrun
        rw [hkey, hval] at hent
        simp only [z4] at hrun8
        clear hiter hperm hG hGm hGi hGa hown hbw hk hbd hmem hkey hval hnd hps hb3 hrl hp ht3 hit3 hbd' hsd hkd hLd G3 G4 hgk hkn hnew hG8 hT8 KS hko he z4
        go_wp2_with fail
        go_region_held3 (fun W => (W.cell? ⟨cg, 1, none⟩ = some (.map (some cm)) ∧ W.cell? ⟨w3.heap.size, 0, none⟩ = some (.map (some r)) ∧ W.cell? ⟨w3.heap.size, 1, none⟩ = some (.bool ro))) (first | exact K1.out | exact K2.out | exact K8.out) ((go_at_call 33; (refine (clone_any _ r esd ckd ?hcb).mono ?_); (case hcb => exact CB.out); rintro e9 w9 ⟨rfl, rfl⟩))
        go_wp2_with fail
        go_roundg (rem.filter (fun y => y.born != e.born)).length
        case measure => rw [KK.out, RL.out]; omega
        case rel =>
          obtain ⟨hG8, hT8⟩ := FIN.out
          obtain ⟨hGa, hGm, hGi, hown⟩ := GA.out
          have hcw := (hown cm (Or.inr (Or.inl rfl)))
          have b4 : Below w.heap.size w ((w3.alloc (.cells #[.map (some r), .bool ro] 74)).alloc (.map esd ckd)).drew := (balw (balw BB.out _) _).drew
          have hbm : bm < w3.heap.size := Nat.lt_of_lt_of_le hlm BB.out.size
          have bl : ∀ q, q < w3.heap.size → q ≠ cm → w8.heap[q]? = w3.heap[q]? := fun q h1 h2 => (hT8.block q h2).trans ((Below.heap_alloc _ _ _ (by simp; omega)).trans (Below.heap_alloc _ _ _ h1))
          refine ⟨done ++ [e], _, _, rfl, ?_, II.out.of_blocks (bl _ hit (Ne.symm hcw.2)) (bl _ hbm (by omega)), hG8, hGm, hGi, ?_, fun b hb => ?_, turned_below b4 hT8 hcw.1⟩
          · have := PP.out
            rw [List.append_assoc]
            exact (List.Perm.append_left done this.2).trans this.1
          · rw [abs_new]
            show aset G.abs.maps x ⟨vals, ro⟩ = _
            have hna : alook G.abs.maps x = none := by rw [show G.abs.maps = amap MapD.abs G.maps from rfl, alook_amap, NW.out]; rfl
            rw [aset_new' hna, hGa, List.map_append, List.map_cons, List.map_nil, PE.out]
          · rcases own_new hb with hb | rfl
            · exact hown b hb
            · have := BB.out.size; simp; omega
end Go.Proofs.Ytagfghihnkkfiaa
