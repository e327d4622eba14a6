/- Part of a proof: SWords SLine SPrsP SPrs SEqL SEqP SEqQ SEqD SAw SFrame. -/
import Derived.Test.YtpabdmcbahmjnaaGreatMSA
import Derived.Lib.Split
import Derived.Lib.IndexMore
import Derived.Test.YtpabdmcbahmjnaaGreatMSC
import Derived.Lib.SplitLaws
import Derived.MapKept
import Derived.Test.YtpabdmcbahmjnaaGreatMSB
import Derived.WalkKit
import Derived.ProofKit
import Derived.OpenShut
import Derived.ChangeStays
import Derived.ChangeBears
import Derived.ReadAgain
import Derived.Below
import Derived.Test.YtpabdmcbahmjnaaGreatChecked
import Derived.Lib.LaidTab
import Derived.Stop.Joined
import Derived.Lib.AppendIntMem
namespace Go.Proofs.YtpabdmcbahmjnaaGreat.Sc
open Go Go.RowKit
set_option linter.unusedSimpArgs false
set_option linter.unusedVariables false
theorem row_some {w : World} {B size n : Nat} {e : TypeId} {v : Value} {xs : List Value} (h : w.ownsRow B e size v n xs) (hn : 0 < n) : ∃ g cap, v = .slice (some ⟨g, 0, none⟩) n cap := by
 rcases h.2 with ⟨rfl, h0⟩ | ⟨g, cap, cur, rfl, _⟩
 ·omega
 ·exact ⟨g, cap, rfl⟩
def Small (n : Nat) (st : PS) : Prop := (st.scr.threads.length ≤ n ∧ ∀ t ∈ st.scr.threads, t.length ≤ n) ∧ st.scr.picks.length ≤ 1048577
theorem ops_flat (t : List OpD) (k j : Nat) (o : OpD) (hk : t[k]? = some o) (hj : j < 5) : (t.flatMap opC)[k * 5 + j]? = (opC o)[j]? := by
 induction t generalizing k with
 | nil => simp at hk
 | cons a r ih =>
  rw [List.flatMap_cons]
  have hl : (opC a).length = 5 := rfl
  cases k with
  | zero =>
   simp only [List.getElem?_cons_zero, Option.some.injEq] at hk
   subst hk
   rw [Nat.zero_mul, Nat.zero_add, List.getElem?_append_left (by omega)]
  | succ k =>
   rw [List.getElem?_append_right (by omega), hl]
   have := ih k (by simpa using hk)
   rw [← this]
   congr 1
   omega
theorem row_ops {w : World} {B : Nat} {u : Value} {t : List OpD} (h : w.ownsRow B 68 5 u t.length (t.flatMap opC)) : ∃ a c, u = .slice a t.length c ∧ OpsAt w a t := by
 by_cases h0 : 0 < t.length
 ·obtain ⟨g, cap, rfl⟩ := row_some h h0
  refine ⟨_, cap, rfl, fun _ => ⟨g, 0, rfl, row_lt h rfl, fun k o hk => ?_⟩⟩
  have c : ∀ j, j < 5 → w.cell? ⟨g, k * 5 + j, none⟩ = (opC o)[j]? := fun j hj => by
   have e := ops_flat t k j o hk hj
   have hs : (opC o)[j]? = some ((opC o)[j]'(by simpa [opC] using hj)) := List.getElem?_eq_getElem _
   rw [hs] at e ⊢
   have := h.cells (g := g) rfl _ _ e
   rwa [addr_at] at this
  simp only [Nat.zero_add]
  exact ⟨c 0 (by omega), c 1 (by omega), c 2 (by omega), c 3 (by omega), c 4 (by omega)⟩
 ·obtain ⟨a, c, rfl⟩ := row_form h
  exact ⟨a, c, rfl, fun h1 => absurd h1 h0⟩
def boxO : Obj := .cells #[.int .u64 0, .slice none 0 0, .slice none 0 0] 30
theorem cell_lt {w : World} {b o : Nat} {v : Value} (h : w.cell? ⟨b, o, none⟩ = some v) : b < w.heap.size := by
 apply Nat.lt_of_not_le
 intro hge
 have : w.heap[b]? = none := Array.getElem?_eq_none hge
 simp [World.cell?, this] at h
structure Env (w : World) : Prop where
 tab : TabB w.heap.size w
 max : ∃ m, w.cell? ⟨1, 0, none⟩ = some (.int .i64 m)
def awS : ScrD := ⟨7, [[⟨1, 0, ⟨#[97]⟩, 5, 0⟩]], [0, 0]⟩
def awT : List UInt8 := [109, 97, 115, 107, 32, 55, 10, 116, 104, 114, 101, 97, 100, 10, 49, 32, 48, 32, 120, 54, 49, 32, 53, 32, 48, 10, 112, 105, 99, 107, 115, 32, 48, 32, 48, 10]
theorem aw_check : checkS awS = 0 := by decide
end Go.Proofs.YtpabdmcbahmjnaaGreat.Sc
namespace Go.Proofs.YtpabdmcbahmjnaaGreat.Sc
open Go.ChangeShapes Go.WideShapes Go.ChangeAt Go.RowKit
set_option linter.unusedSimpArgs false
set_option linter.unusedVariables false
theorem stays_all {H : Type} {enc : TypeId × Value → H} {P : Program} {W W' : World} {sp' : Nat → Bool} (hl : laidOutB P = true) (hm : mapsRowed P = true)
  (hz : ((List.range P.types.size).all fun t => match P.underlying t with | some (.slice e) => decide (0 < P.cellsOf e) | _ => true) = true) (hB : Below W.heap.size W W') :
  ∀ {ts : List TypeId} {vs : List Value} {ds : List (DataW H)} {ps : List MemPlace}, (∀ t ∈ ts, t < P.types.size) → DataW.TrodAll enc P W 0 (fun _ => true) true ts vs ds ps →
   (∀ p ∈ ps, p.block < W.heap.size) → (∀ p ∈ ps, sp' p.block = true) → DataW.TrodAll enc P W' 0 sp' true ts vs ds ps
 | [], [], [], _, _, h, _, _ => h
 | t :: _, _ :: _, _ :: _, _, hT, ⟨p, q, ⟨n, h1⟩, h2, e⟩, hb, hs =>
  ⟨p, q, ⟨n, DataW.trod_stays (kids_rows hl hm) (fun {t e} ht he => slices_full_of P hz t e ht he) (fun h => by cases h) (hT t (List.mem_cons.2 (Or.inl rfl))) h1
    (fun x hx => hB.same (hb x (by rw [e]; exact List.mem_append_left _ hx))) (fun x hx => hs x (by rw [e]; exact List.mem_append_left _ hx))⟩,
   stays_all hl hm hz hB (fun t ht => hT t (List.mem_cons.2 (Or.inr ht))) h2 (fun x hx => hb x (by rw [e]; exact List.mem_append_right _ hx)) (fun x hx => hs x (by rw [e]; exact List.mem_append_right _ hx)), e⟩
theorem post_of_below {H : Type} {enc : TypeId × Value → H} {P : Program} {f : Func} {s : ChangeSpec} {apart fresh handsOn again : Bool} {W W' : World} {args : Array Value} {v : Value} {ds gs : List (DataW H)} {before : List MemPlace}
  (hl : laidOutB P = true) (hm : mapsRowed P = true)
  (hz : ((List.range P.types.size).all fun t => match P.underlying t with | some (.slice e) => decide (0 < P.cellsOf e) | _ => true) = true) (hT : ∀ t ∈ f.params.toList, t < P.types.size)
  (hW : DataW.Whole enc P f.params.toList s.vars apart W args.toList ds gs before)
  (hA : DataW.TrodAll enc P W 0 (fun _ => true) true f.params.toList args.toList ds before)
  (hfa : (s.fn H (ds ++ gs)).args = ds)
  (hres : ∀ (b : Nat) (sp : Nat → Bool) (hd : Bool), DataW.TrodAll enc P W' b sp hd f.resultTypes.toList (v.resultList f.resultTypes.size) (s.fn H (ds ++ gs)).results [])
  (hvars : ∀ sp : Nat → Bool, DataW.TrodVars enc P W' sp s.vars (s.fn H (ds ++ gs)).vars [])
  (hB : Below W.heap.size W W')
  (hok : ∀ (j : Nat) (t : TypeId) (r : Value), f.resultTypes[j]? = some t → (v.resultList f.resultTypes.size)[j]? = some r → Value.okWide P W' .any 0 t r) :
  s.post enc P f apart fresh handsOn again W args v W' := by
 have hold : ∀ p ∈ before, (fun b => decide (b < W.heap.size)) p.block = true := fun p hp => by simpa using hW.lt p hp
 have hargs : ∀ sp : Nat → Bool, (∀ p ∈ before, sp p.block = true) → DataW.TrodAll enc P W' 0 sp true f.params.toList args.toList (s.fn H (ds ++ gs)).args before := fun sp hs => by
  rw [hfa]
  exact stays_all hl hm hz hB hT hA hW.lt hs
 refine ⟨ds, gs, before, [], before, [], hW, hres _ _ _, hargs _ hold, hvars _, World.keptBut_mono (fun p hp => ⟨hp, Or.inr (by simpa using hp)⟩) (hB.frame _), fun _ => ?_⟩
 have hlt := hW.lt
 obtain ⟨_, _, _, _, _, hzz, hn⟩ := hW
 refine ⟨hok, _, _, ([] ++ before) ++ [], ⟨[] ++ before, [], trodAll_append (hargs _ (fun _ _ => rfl)) (hres _ _ _), hvars _, rfl, ?_, ?_⟩, ?_⟩
 ·intro b off hp
  have hp' : MemPlace.cell b off ∈ before := by simpa using hp
  rw [hB.frozen (p := ⟨b, off, none⟩) (hlt _ hp')]
  exact hzz b off hp'
 ·intro ha
  have := hn ha
  simpa using this
 ·intro p hp _
  simpa using hp
def IntsAt (w : World) (A : Option Addr) (n : Nat) : Prop :=
 n ≤ 9223372036854775807 ∧ (0 < n → ∃ b off, A = some ⟨b, off, none⟩ ∧ b < w.heap.size ∧ ∀ k, k < n → ∃ z : Int, w.cell? ⟨b, off + k, none⟩ = some (.int .i64 z) ∧ -9223372036854775808 ≤ z ∧ z ≤ 9223372036854775807)
theorem acell_lt {w : World} {p : Addr} {v : Value} (h : w.cell? p = some v) : p.block < w.heap.size := by
 unfold World.cell? at h
 by_cases hb : p.block < w.heap.size
 ·exact hb
 ·have : w.heap[p.block]? = none := Array.getElem?_eq_none (by omega)
  rw [this] at h
  simp at h
theorem open_slice_ints {H : Type} {enc : TypeId × Value → H} {P : Program} {w : World} {r : Reach} {b0 : Nat} {t e : TypeId} {v : Value} {d : DataW H} {ps : List MemPlace} (ht : P.underlying t = some (.slice e)) (he : P.underlying e = some (.int .i64)) (hc : P.cellsOf e = 1)
  (hval : Value.okWide P w r b0 t v) (h : DataW.Trod enc P w 0 (fun _ => true) true t v d ps) : ∃ A n c, v = .slice A n c ∧ IntsAt w A n := by
 obtain ⟨A, n, c, rfl⟩ := Go.WideShapes.okWide_slice ht hval
 refine ⟨A, n, c, rfl, ?_⟩
 obtain ⟨fuel, hf⟩ := h
 rcases Go.ChangeShapes.open_ints ht he hc hf with ⟨hcs, _⟩ | ⟨a, len, cap, zs, hcs, _, hl, hm, hz, _, hcell, hwz⟩
 ·simp [Value.cells] at hcs
  obtain ⟨_, rfl, _⟩ := hcs
  exact ⟨by omega, fun h => absurd h (by omega)⟩
 ·simp [Value.cells] at hcs
  obtain ⟨rfl, rfl, rfl⟩ := hcs
  simp only [if_true] at hz
  unfold maxLen at hm
  refine ⟨by omega, fun h0 => ?_⟩
  obtain ⟨b, off, rfl, hall⟩ := ints_at hcell (by omega)
  refine ⟨b, off, rfl, acell_lt (hall 0 (by omega)), fun k hk => ⟨zs.getD k 0, hall k (by omega), ?_⟩⟩
  have hmem : zs.getD k 0 ∈ zs := by
   have hk2 : k < zs.length := by omega
   have e : zs.getD k 0 = zs[k] := by simp [List.getD, List.getElem?_eq_getElem hk2]
   rw [e]
   exact List.getElem_mem _
  exact bounds_i64 (hwz _ hmem)
end Go.Proofs.YtpabdmcbahmjnaaGreat.Sc
