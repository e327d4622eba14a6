/- The frame of a law that leaves its arguments as they were, whatever their types. No walk in sight. -/
import Derived.WalkKit
import Derived.ProofKit
import Derived.OpenShut
import Derived.ChangeStays
import Derived.ChangeBears
import Derived.ReadAgain
import Derived.Below
namespace Go.Proofs.YtpabdmcbahmjnaaGreat
open Go.ChangeShapes Go.WideShapes Go.ChangeAt Go.RowKit
set_option linter.unusedSimpArgs false
set_option linter.unusedVariables false
theorem stays_all {H : Type} {enc : TypeId × Value → H} {P : Program} {W W' : World} {sp' : Nat → Bool} (hl : laidOutB P = true) (hm : mapsRowed P = true)
  (hz : ((List.range P.types.size).all fun t => match P.underlying t with | some (.slice e) => decide (0 < P.cellsOf e) | _ => true) = true) (hB : Below W.heap.size W W') :
  ∀ {ts : List TypeId} {vs : List Value} {ds : List (DataW H)} {ps : List MemPlace}, (∀ t ∈ ts, t < P.types.size) → DataW.TrodAll enc P W 0 (fun _ => true) true ts vs ds ps →
   (∀ p ∈ ps, p.block < W.heap.size) → (∀ p ∈ ps, sp' p.block = true) → DataW.TrodAll enc P W' 0 sp' true ts vs ds ps
 | [], [], [], _, _, h, _, _ => h
 | t :: _, _ :: _, _ :: _, _, hT, ⟨p, q, ⟨n, h1⟩, h2, e⟩, hb, hs =>
  ⟨p, q, ⟨n, DataW.trod_stays (kids_rows hl hm) (fun {t e} ht he => slices_full_of P hz t e ht he) (fun h => by cases h) (hT t (List.mem_cons.2 (Or.inl rfl))) h1
    (fun x hx => hB.same (hb x (by rw [e]; exact List.mem_append_left _ hx))) (fun x hx => hs x (by rw [e]; exact List.mem_append_left _ hx))⟩,
   stays_all hl hm hz hB (fun t ht => hT t (List.mem_cons.2 (Or.inr ht))) h2 (fun x hx => hb x (by rw [e]; exact List.mem_append_right _ hx)) (fun x hx => hs x (by rw [e]; exact List.mem_append_right _ hx)), e⟩
theorem post_of_below {H : Type} {enc : TypeId × Value → H} {P : Program} {f : Func} {s : ChangeSpec} {apart fresh handsOn again : Bool} {W W' : World} {args : Array Value} {v : Value} {ds gs : List (DataW H)} {before : List MemPlace}
  (hl : laidOutB P = true) (hm : mapsRowed P = true)
  (hz : ((List.range P.types.size).all fun t => match P.underlying t with | some (.slice e) => decide (0 < P.cellsOf e) | _ => true) = true) (hT : ∀ t ∈ f.params.toList, t < P.types.size)
  (hW : DataW.Whole enc P f.params.toList s.vars apart W args.toList ds gs before)
  (hA : DataW.TrodAll enc P W 0 (fun _ => true) true f.params.toList args.toList ds before)
  (hfa : (s.fn H (ds ++ gs)).args = ds)
  (hres : ∀ (b : Nat) (sp : Nat → Bool) (hd : Bool), DataW.TrodAll enc P W' b sp hd f.resultTypes.toList (v.resultList f.resultTypes.size) (s.fn H (ds ++ gs)).results [])
  (hvars : ∀ sp : Nat → Bool, DataW.TrodVars enc P W' sp s.vars (s.fn H (ds ++ gs)).vars [])
  (hB : Below W.heap.size W W')
  (hok : ∀ (j : Nat) (t : TypeId) (r : Value), f.resultTypes[j]? = some t → (v.resultList f.resultTypes.size)[j]? = some r → Value.okWide P W' .any 0 t r) :
  s.post enc P f apart fresh handsOn again W args v W' := by
 have hold : ∀ p ∈ before, (fun b => decide (b < W.heap.size)) p.block = true := fun p hp => by simpa using hW.lt p hp
 have hargs : ∀ sp : Nat → Bool, (∀ p ∈ before, sp p.block = true) → DataW.TrodAll enc P W' 0 sp true f.params.toList args.toList (s.fn H (ds ++ gs)).args before := fun sp hs => by
  rw [hfa]
  exact stays_all hl hm hz hB hT hA hW.lt hs
 refine ⟨ds, gs, before, [], before, [], hW, hres _ _ _, hargs _ hold, hvars _, World.keptBut_mono (fun p hp => ⟨hp, Or.inr (by simpa using hp)⟩) (hB.frame _), fun _ => ?_⟩
 have hlt := hW.lt
 obtain ⟨_, _, _, _, _, hzz, hn⟩ := hW
 refine ⟨hok, _, _, ([] ++ before) ++ [], ⟨[] ++ before, [], trodAll_append (hargs _ (fun _ _ => rfl)) (hres _ _ _), hvars _, rfl, ?_, ?_⟩, ?_⟩
 ·intro b off hp
  have hp' : MemPlace.cell b off ∈ before := by simpa using hp
  rw [hB.frozen (p := ⟨b, off, none⟩) (hlt _ hp')]
  exact hzz b off hp'
 ·intro ha
  have := hn ha
  simpa using this
 ·intro p hp _
  simpa using hp
def IntsAt (w : World) (A : Option Addr) (n : Nat) : Prop :=
 n ≤ 9223372036854775807 ∧ (0 < n → ∃ b off, A = some ⟨b, off, none⟩ ∧ b < w.heap.size ∧ ∀ k, k < n → ∃ z : Int, w.cell? ⟨b, off + k, none⟩ = some (.int .i64 z) ∧ -9223372036854775808 ≤ z ∧ z ≤ 9223372036854775807)
theorem cell_lt {w : World} {p : Addr} {v : Value} (h : w.cell? p = some v) : p.block < w.heap.size := by
 unfold World.cell? at h
 by_cases hb : p.block < w.heap.size
 ·exact hb
 ·have : w.heap[p.block]? = none := Array.getElem?_eq_none (by omega)
  rw [this] at h
  simp at h
theorem open_slice_ints {H : Type} {enc : TypeId × Value → H} {P : Program} {w : World} {r : Reach} {b0 : Nat} {t e : TypeId} {v : Value} {d : DataW H} {ps : List MemPlace} (ht : P.underlying t = some (.slice e)) (he : P.underlying e = some (.int .i64)) (hc : P.cellsOf e = 1)
  (hval : Value.okWide P w r b0 t v) (h : DataW.Trod enc P w 0 (fun _ => true) true t v d ps) : ∃ A n c, v = .slice A n c ∧ IntsAt w A n := by
 obtain ⟨A, n, c, rfl⟩ := Go.WideShapes.okWide_slice ht hval
 refine ⟨A, n, c, rfl, ?_⟩
 obtain ⟨fuel, hf⟩ := h
 rcases Go.ChangeShapes.open_ints ht he hc hf with ⟨hcs, _⟩ | ⟨a, len, cap, zs, hcs, _, hl, hm, hz, _, hcell, hwz⟩
 ·simp [Value.cells] at hcs
  obtain ⟨_, rfl, _⟩ := hcs
  exact ⟨by omega, fun h => absurd h (by omega)⟩
 ·simp [Value.cells] at hcs
  obtain ⟨rfl, rfl, rfl⟩ := hcs
  simp only [if_true] at hz
  unfold maxLen at hm
  refine ⟨by omega, fun h0 => ?_⟩
  obtain ⟨b, off, rfl, hall⟩ := ints_at hcell (by omega)
  refine ⟨b, off, rfl, cell_lt (hall 0 (by omega)), fun k hk => ⟨zs.getD k 0, hall k (by omega), ?_⟩⟩
  have hmem : zs.getD k 0 ∈ zs := by
   have hk2 : k < zs.length := by omega
   have e : zs.getD k 0 = zs[k] := by simp [List.getD, List.getElem?_eq_getElem hk2]
   rw [e]
   exact List.getElem_mem _
  exact bounds_i64 (hwz _ hmem)
end Go.Proofs.YtpabdmcbahmjnaaGreat
