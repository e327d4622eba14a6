/- The walks of maps.Equal at the two map types of package model. -/
import Derived.Test.YtagfghihnkkfiaaPlOne
import Derived.Test.YtagfghihnkkfiaaModE
import Derived.Deep.LoopGhost
import Derived.Deep.QuietTactic
import Derived.BigQuiet
namespace Go.Proofs.Ytagfghihnkkfiaa
set_option linter.unusedVariables false
set_option linter.unusedSimpArgs false
open Go Go.RowKit Go.MapKept
theorem map_entry {κ β : Type} {w : World} {r : Nat} {d : TypeDesc} {kk : κ → Value} {f : β → Value} {L : List (κ × β)} (h : MapIs w r d kk f L) : ∃ es clock, w.heap[r]? = some (.map es clock) ∧ Stamped es clock ∧ es.toList.length = L.length ∧ (∀ e ∈ es.toList, ∃ p ∈ L, e.key = kk p.1 ∧ e.val = f p.2) ∧ (∀ p ∈ L, ∃ e ∈ es.toList, e.key = kk p.1) := by
  obtain ⟨es, clock, hb, hs, hk, hL⟩ := h
  refine ⟨es, clock, hb, hs, by have := congrArg List.length hL; simpa using this, fun e he => ?_, fun p hp => ?_⟩
  · have : (e.key, e.val) ∈ L.map (fun p => (kk p.1, f p.2)) := by rw [← hL]; exact List.mem_map.2 ⟨e, he, rfl⟩
    obtain ⟨p, hp, hpe⟩ := List.mem_map.1 this
    simp only [Prod.mk.injEq] at hpe
    exact ⟨p, hp, hpe.1.symm, hpe.2.symm⟩
  · have : (kk p.1, f p.2) ∈ es.toList.map (fun e => (e.key, e.val)) := by rw [hL]; exact List.mem_map.2 ⟨p, hp, rfl⟩
    obtain ⟨e, he, hpe⟩ := List.mem_map.1 this
    simp only [Prod.mk.injEq] at hpe
    exact ⟨e, he, hpe.1⟩
section
variable {κ β : Type} [DecidableEq κ] {w : World} {r : Nat} {d : TypeDesc} {kk : κ → Value} {f : β → Value} {L : List (κ × β)}
/-- an entry whose value the other map has too -/
def GoodE (kk : κ → Value) (eq : β → β → Bool) (L M : List (κ × β)) (e : MapEntry) : Prop := ∃ p ∈ L, e.key = kk p.1 ∧ valEq eq M p = true
def MeqRel (w : World) (r it : Nat) (es : Array MapEntry) (clock : Nat) (good : MapEntry → Prop) (k : Nat) (wr : World) : Prop :=
  ∃ done rem, k = rem.length ∧ (done ++ rem).Perm es.toList ∧ IterIs wr it r es clock rem ∧ (∀ e ∈ done, good e) ∧ Below w.heap.size w wr
theorem meq_end {eq : β → β → Bool} {M : List (κ × β)} {es : Array MapEntry} {done : List MapEntry} (inj : ∀ x y, kk x = kk y → x = y) (hn : (L.map (·.1)).Nodup) (hent : ∀ p ∈ L, ∃ e ∈ es.toList, e.key = kk p.1) (hp : done.Perm es.toList) (hg : ∀ e ∈ done, GoodE kk eq L M e) : L.all (valEq eq M) = true := by
  rw [List.all_eq_true]
  intro p hpL
  obtain ⟨e, he, hk⟩ := hent p hpL
  obtain ⟨q, hq, hqk, hv⟩ := hg e (hp.symm.subset he)
  have e1 : q.1 = p.1 := inj _ _ (hqk.symm.trans hk)
  have e2 := alook_some hn hq
  have e3 := alook_some hn hpL
  rw [e1, e3] at e2
  obtain ⟨a, b⟩ := q
  obtain ⟨a', b'⟩ := p
  simp only at e1 e2
  obtain rfl := e1
  obtain rfl := Option.some.inj e2
  exact hv
theorem meq_no {eq : β → β → Bool} {M : List (κ × β)} {p : κ × β} (hp : p ∈ L) (hv : valEq eq M p = false) : mapsEqB eq L M = false := by
  unfold mapsEqB
  rw [List.all_eq_false.2 ⟨p, hp, by rw [hv]; simp⟩, Bool.and_false]
theorem IterIs.of_blocks {w w' : World} {it r : Nat} {es : Array MapEntry} {clock : Nat} {rem : List MapEntry} (h : IterIs w it r es clock rem) (h1 : w'.heap[it]? = w.heap[it]?) (h2 : w'.heap[r]? = w.heap[r]?) : IterIs w' it r es clock rem := by
  obtain ⟨seen, q1, q2, q3, q4⟩ := h
  exact ⟨seen, h1.trans q1, h2.trans q2, q3, q4⟩
theorem turned_below {w0 w w3 : World} {it : Nat} (h : Below w0.heap.size w0 w) (ht : Turned it w w3) (hi : w0.heap.size ≤ it) : Below w0.heap.size w0 w3 :=
  ⟨ht.os.trans h.os, ht.tape.trans h.tape, ht.output.trans h.output, by rw [ht.size]; exact h.size, fun k hk => (ht.block k (by omega)).trans (h.block k hk)⟩
theorem range_map {T kt et : TypeId} (hT : Try.prog.underlying T = some (.map kt et)) {es : Array MapEntry} {clock : Nat} (hb : w.heap[r]? = some (.map es clock)) :
    (Instr.range T (.map (some r))).run Try.prog w = .ok (.pointer (some ⟨w.heap.size, 0, none⟩)) (w.alloc (.mapIter (some r) clock #[] clock)) := by
  simp [Instr.range, run_underlying hT, MapKept.run_getObj_map hb, Result.andThen, go_sem]
end
set_option maxRecDepth 100000 in
set_option maxHeartbeats 1000000 in
theorem meq_str (w : World) (r1 r2 : Nat) (L M : List (ByteArray × Int)) (h1 : MapIs w r1 .string Value.string (Value.int .u64) L) (h2 : MapIs w r2 .string Value.string (Value.int .u64) M) (hl : L.length ≤ 1099511627776) (hm : M.length ≤ 1099511627776) :
    Calls Try.prog 40 #[.map (some r1), .map (some r2)] w fun e w' => e = .returned (.bool (mapsEqB intEq L M)) ∧ Below w.heap.size w w' := by
  have hn := h1.nodup inj_str
  have l1 := fun ty => MapIs.len (P := Try.prog) Try.underlying72 h1 ty
  have l2 := fun ty => MapIs.len (P := Try.prog) Try.underlying72 h2 ty
  obtain ⟨es, clock, hb, hst, hel, hen, hne⟩ := map_entry h1
  have hr := range_map Try.underlying72 hb
  have hlt1 := h1.lt
  have hlt2 := h2.lt
  have H2 := Lib.hid h2
  have HN := Lib.hid hn
  have EN := Lib.hid hen
  have NE := Lib.hid hne
  have ST := Lib.hid hst
  have HB := Lib.hid hb
  have EL := Lib.hid hel
  clear h1 h2 hn hen hne hst hb hel
  by_cases hll : L.length = M.length
  · have LL := Lib.hid hll
    have ll : ((L.length : Int) != (M.length : Int)) = false := by simp; omega
    clear hll
    go_enter Try.func40, Try.ntmps40
    go_wp2_with fail
    clear l1 l2 ll hr
    go_loopg [] L.length (fun k wr => MeqRel w r1 w.heap.size es clock (GoodE Value.string intEq L M) k wr)
    case atStart => exact ⟨[], es.toList, EL.out.symm, by simp, IterIs.start HB.out ST.out, by simp, (Below.refl _ _).alloc (Nat.le_refl _) _⟩
    case round =>
      obtain ⟨done, rem, hk, hperm, hiter, hgood, hbw⟩ := hrel
      have hbd : (es.toList.map (·.born)).Nodup := ST.out.2.1
      rcases hiter.next (P := Try.prog) 0 with ⟨hnil, hrun⟩ | ⟨e, w3, he, hrun, hent, hit3, ht3⟩
      · subst hnil
        have R := Lib.hid (show mapsEqB intEq L M = true by
          unfold mapsEqB
          rw [meq_end inj_str HN.out NE.out (by simpa using hperm) hgood, LL.out]
          simp)
        have BW := Lib.hid hbw
        clear hiter hperm hgood hbw hk hbd
        go_wp2_with fail
        go_ret
        exact ⟨ret_bool R.out.symm, BW.out⟩
      · have hmem : e ∈ es.toList := hperm.subset (List.mem_append_right _ he)
        obtain ⟨⟨x, v⟩, hp, hkey, hval⟩ := EN.out e hmem
        simp only at hkey hval
        have hnd : (rem.map (·.born)).Nodup := by
          have := (hperm.map (·.born)).nodup_iff.2 hbd
          rw [List.map_append] at this
          exact (List.nodup_append.1 this).2.1
        have hps := perm_strike hnd he
        have hb3 := turned_below hbw ht3 (Nat.le_refl _)
        have hrl : rem.length = (rem.filter (fun y => y.born != e.born)).length + 1 := by rw [← hps.length_eq]; simp
        have hlook := (H2.out.of_block (hb3.block r2 hlt2)).lookup (P := Try.prog) key_str inj_str Try.underlying72 Try.underlying9 (z := .int .u64 0) (by kernel_rfl) x true
        have PP := Lib.hid (And.intro hperm hps)
        have GG := Lib.hid hgood
        have II := Lib.hid hit3
        have BB := Lib.hid hb3
        have KK := Lib.hid hk
        have RL := Lib.hid hrl
        have HP := Lib.hid hp
        have HKY := Lib.hid hkey
        rw [hkey, hval] at hrun
        rw [hkey, hval] at hent
        simp only [if_true] at hlook
        clear hiter hperm hgood hbw hk hbd hmem hkey hval hnd hps hb3 hrl hp ht3 hit3
        cases hf : alook M x with
        | none =>
          rw [hf] at hlook
          have R := Lib.hid (meq_no (eq := intEq) HP.out (show valEq intEq M (x, v) = false by unfold valEq; simp only [hf]))
          simp only [outOf, Option.isSome_none] at hlook
          clear hf he
          go_wp2_with fail
          go_ret
          exact ⟨ret_bool R.out.symm, BB.out⟩
        | some y =>
          rw [hf] at hlook
          simp only [outOf, Option.isSome_some] at hlook
          have VE := Lib.hid (show valEq intEq M (x, v) = (v == y) by unfold valEq; simp only [hf]; rfl)
          cases hvy : (v == y) with
          | false =>
            have R := Lib.hid (meq_no (eq := intEq) HP.out (VE.out.trans hvy))
            have hvn : (v != y) = true := by simp [bne, hvy]
            clear hf hvy he
            go_wp2_with fail
            go_ret
            exact ⟨ret_bool R.out.symm, BB.out⟩
          | true =>
            have G := Lib.hid (show GoodE Value.string intEq L M e from ⟨_, HP.out, HKY.out, VE.out.trans hvy⟩)
            have hvn : (v != y) = false := by simp [bne, hvy]
            clear hf hvy he
            go_wp2_with fail
            go_roundg (rem.filter (fun y => y.born != e.born)).length
            case measure => rw [KK.out, RL.out]; omega
            case rel =>
              refine ⟨done ++ [e], _, rfl, ?_, II.out, fun e' he' => ?_, BB.out⟩
              · have := PP.out
                rw [List.append_assoc]
                exact (List.Perm.append_left done this.2).trans this.1
              · rcases List.mem_append.1 he' with he' | he'
                · exact GG.out e' he'
                · rw [List.mem_singleton.1 he']
                  exact G.out
  · have R := Lib.hid (show mapsEqB intEq L M = false by unfold mapsEqB; rw [show (L.length == M.length) = false by simpa using hll]; rfl)
    have ll : ((L.length : Int) != (M.length : Int)) = true := by simp; omega
    clear hll
    go_enter Try.func40, Try.ntmps40
    go_wp2_with fail
    go_ret
    exact ⟨ret_bool R.out.symm, Below.refl _ _⟩
set_option maxRecDepth 100000 in
set_option maxHeartbeats 1000000 in
theorem meq_itr (w : World) (r1 r2 : Nat) (L M : List (Int × IterD)) (h1 : MapIs w r1 (.int .i64) (Value.int .i64) itV L) (h2 : MapIs w r2 (.int .i64) (Value.int .i64) itV M) (hl : L.length ≤ 1099511627776) (hm : M.length ≤ 1099511627776) :
    Calls Try.prog 39 #[.map (some r1), .map (some r2)] w fun e w' => e = .returned (.bool (mapsEqB itEq L M)) ∧ Below w.heap.size w w' := by
  have hn := h1.nodup inj_int
  have l1 := fun ty => MapIs.len (P := Try.prog) Try.underlying76 h1 ty
  have l2 := fun ty => MapIs.len (P := Try.prog) Try.underlying76 h2 ty
  obtain ⟨es, clock, hb, hst, hel, hen, hne⟩ := map_entry h1
  have hr := range_map Try.underlying76 hb
  have hlt1 := h1.lt
  have hlt2 := h2.lt
  have H2 := Lib.hid h2
  have HN := Lib.hid hn
  have EN := Lib.hid hen
  have NE := Lib.hid hne
  have ST := Lib.hid hst
  have HB := Lib.hid hb
  have EL := Lib.hid hel
  clear h1 h2 hn hen hne hst hb hel
  by_cases hll : L.length = M.length
  · have LL := Lib.hid hll
    have ll : ((L.length : Int) != (M.length : Int)) = false := by simp; omega
    clear hll
    go_enter Try.func39, Try.ntmps39
    go_wp2_with fail
    clear l1 l2 ll hr
    go_loopg [] L.length (fun k wr => MeqRel w r1 w.heap.size es clock (GoodE (Value.int .i64) itEq L M) k wr)
    case atStart => exact ⟨[], es.toList, EL.out.symm, by simp, IterIs.start HB.out ST.out, by simp, (Below.refl _ _).alloc (Nat.le_refl _) _⟩
    case round =>
      obtain ⟨done, rem, hk, hperm, hiter, hgood, hbw⟩ := hrel
      have hbd : (es.toList.map (·.born)).Nodup := ST.out.2.1
      rcases hiter.next (P := Try.prog) 0 with ⟨hnil, hrun⟩ | ⟨e, w3, he, hrun, hent, hit3, ht3⟩
      · subst hnil
        have R := Lib.hid (show mapsEqB itEq L M = true by
          unfold mapsEqB
          rw [meq_end inj_int HN.out NE.out (by simpa using hperm) hgood, LL.out]
          simp)
        have BW := Lib.hid hbw
        clear hiter hperm hgood hbw hk hbd
        go_wp2_with fail
        go_ret
        exact ⟨ret_bool R.out.symm, BW.out⟩
      · have hmem : e ∈ es.toList := hperm.subset (List.mem_append_right _ he)
        obtain ⟨⟨x, ⟨v1, v2, v3⟩⟩, hp, hkey, hval⟩ := EN.out e hmem
        simp only [itV] at hkey hval
        have hnd : (rem.map (·.born)).Nodup := by
          have := (hperm.map (·.born)).nodup_iff.2 hbd
          rw [List.map_append] at this
          exact (List.nodup_append.1 this).2.1
        have hps := perm_strike hnd he
        have hb3 := turned_below hbw ht3 (Nat.le_refl _)
        have hrl : rem.length = (rem.filter (fun y => y.born != e.born)).length + 1 := by rw [← hps.length_eq]; simp
        have hlook := ((H2.out.of_block (hb3.block r2 hlt2)).alloc (.cells #[.int .i64 v1, .int .i64 v2, .int .i64 v3] 86)).lookup (P := Try.prog) key_int inj_int Try.underlying76 Try.underlying3 (z := .agg #[.int .i64 0, .int .i64 0, .int .i64 0]) (by kernel_rfl) x true
        have PP := Lib.hid (And.intro hperm hps)
        have GG := Lib.hid hgood
        have II := Lib.hid hit3
        have BB := Lib.hid hb3
        have KK := Lib.hid hk
        have RL := Lib.hid hrl
        have HP := Lib.hid hp
        have HKY := Lib.hid hkey
        rw [hkey, hval] at hrun
        rw [hkey, hval] at hent
        simp only [if_true] at hlook
        clear hiter hperm hgood hbw hk hbd hmem hkey hval hnd hps hb3 hrl hp ht3 hit3
        cases hf : alook M x with
        | none =>
          rw [hf] at hlook
          have R := Lib.hid (meq_no (eq := itEq) HP.out (show valEq itEq M (x, ⟨v1, v2, v3⟩) = false by unfold valEq; simp only [hf]))
          simp only [outOf, Option.isSome_none] at hlook
          clear hf he
          go_wp2_with fail
          go_ret
          exact ⟨ret_bool R.out.symm, (BB.out.alloc BB.out.size _).alloc (by have := BB.out.size; simp; omega) _⟩
        | some y =>
          rw [hf] at hlook
          simp only [outOf, Option.isSome_some] at hlook
          obtain ⟨y1, y2, y3⟩ := y
          simp only [itV] at hlook
          have VE := Lib.hid (show valEq itEq M (x, ⟨v1, v2, v3⟩) = (v1 == y1 && (v2 == y2 && v3 == y3)) by unfold valEq; simp only [hf]; rfl)
          clear hf he
          cases h1 : (v1 == y1) with
          | false =>
            have R := Lib.hid (meq_no (eq := itEq) HP.out (VE.out.trans (by simp [h1])))
            go_wp2_with fail
            go_ret
            exact ⟨ret_bool R.out.symm, (BB.out.alloc BB.out.size _).alloc (by have := BB.out.size; simp; omega) _⟩
          | true =>
            cases h2 : (v2 == y2) with
            | false =>
              have R := Lib.hid (meq_no (eq := itEq) HP.out (VE.out.trans (by simp [h2])))
              go_wp2_with fail
              go_ret
              exact ⟨ret_bool R.out.symm, (BB.out.alloc BB.out.size _).alloc (by have := BB.out.size; simp; omega) _⟩
            | true =>
              cases h3 : (v3 == y3) with
              | false =>
                have R := Lib.hid (meq_no (eq := itEq) HP.out (VE.out.trans (by simp [h3])))
                go_wp2_with fail
                go_ret
                exact ⟨ret_bool R.out.symm, (BB.out.alloc BB.out.size _).alloc (by have := BB.out.size; simp; omega) _⟩
              | true =>
                have G := Lib.hid (show GoodE (Value.int .i64) itEq L M e from ⟨_, HP.out, HKY.out, VE.out.trans (by rw [h1, h2, h3]; rfl)⟩)
                go_wp2_with fail
                go_roundg (rem.filter (fun y => y.born != e.born)).length
                case measure => rw [KK.out, RL.out]; omega
                case rel =>
                  have hit : w.heap.size < w3.heap.size := by
                    obtain ⟨seen, q1, _⟩ := II.out
                    exact (Array.getElem?_eq_some_iff.1 q1).1
                  refine ⟨done ++ [e], _, rfl, ?_, II.out.of_blocks ((Below.heap_alloc _ _ _ (by simp; omega)).trans (Below.heap_alloc _ _ _ hit)) ((Below.heap_alloc _ _ _ (by simp; omega)).trans (Below.heap_alloc _ _ _ (by omega))), fun e' he' => ?_, (BB.out.alloc BB.out.size _).alloc (by have := BB.out.size; simp; omega) _⟩
                  · have := PP.out
                    rw [List.append_assoc]
                    exact (List.Perm.append_left done this.2).trans this.1
                  · rcases List.mem_append.1 he' with he' | he'
                    · exact GG.out e' he'
                    · rw [List.mem_singleton.1 he']
                      exact G.out
  · have R := Lib.hid (show mapsEqB itEq L M = false by unfold mapsEqB; rw [show (L.length == M.length) = false by simpa using hll]; rfl)
    have ll : ((L.length : Int) != (M.length : Int)) = true := by simp; omega
    clear hll
    go_enter Try.func39, Try.ntmps39
    go_wp2_with fail
    go_ret
    exact ⟨ret_bool R.out.symm, Below.refl _ _⟩
end Go.Proofs.Ytagfghihnkkfiaa
