/- The walk of the law HistoryRuns. -/
import Derived.Test.YtpabdmcbahmjnaaGreatMW25
namespace Go.Proofs.YtpabdmcbahmjnaaGreat
open Go Go.RowKit Go.MapKept
set_option linter.unusedSimpArgs false
set_option linter.unusedVariables false
set_option maxRecDepth 100000 in
set_option maxHeartbeats 4000000 in
theorem historyRuns_walk (A : Option Addr) (n c : Nat) (k : Int) (w : World) (hi : Sc.IntsAt w A n) (k0 : 0 ≤ k) (k1 : k ≤ 255) :
  Calls Tryz.prog 3 #[.slice A n c, .int .u8 k] w fun e w' => e = .returned (.bool true) ∧ Below w.heap.size w w' := by
 go_enter Tryz.func3, Tryz.ntmps3
 go_wp2_with (first | (go_at_call 8; refine stopAt ?_))
 unfold StopAt
 refine (gen_s w A n c hi).mono ?_
 rintro e w1 ⟨v, ts, rfl, hg, hb1⟩
 have B1 := Lib.hid hb1
 go_wp2_with (first | (go_at_call 7; refine stopAt ?_))
 unfold StopAt
 refine (new_s hg).mono ?_
 rintro e w2 ⟨p, rfl, hn⟩
 clear hg hb1
 go_wp2_with (first | (go_at_call 9; refine stopAt ?_))
 unfold StopAt
 refine (run_s hn).mono ?_
 rintro e w3 ⟨⟨v', rfl⟩, hb3, l, hok, hm⟩
 have B3 := Lib.hid (B1.out.trans (hb3.mono B1.out.size))
 have MO := Lib.hid hok
 have MA := Lib.hid hm
 clear hn hb3 hok hm
 obtain ⟨p0, ⟨A1, c1, z1, HT⟩, E1, d1, z2, hd, HE⟩ := MA.out
 have hlen := MO.out.len
 go_wp2_with (first | (go_at_call 10; refine stopAt ?_))
 unfold StopAt
 refine (mod_any w3 k (l.length + 1) (by omega) (by omega) (by omega) (by omega)).mono ?_
 rintro e w4 ⟨k', rfl, q0, q1, hb4⟩
 obtain ⟨m, rfl⟩ : ∃ m : Nat, k' = m := ⟨k'.toNat, by omega⟩
 have B4 := Lib.hid (B3.out.trans (hb4.mono B3.out.size))
 have MA4 := Lib.hid (MA.out.below hb4)
 have T4 := Lib.hid (HT.below hb4)
 have E4 := Lib.hid (HE.below hb4)
 have z41 := (hb4.cell (p := ⟨p, 1, none⟩) p0).trans z1
 have z46 := (hb4.cell (p := ⟨p, 6, none⟩) p0).trans z2
 clear hb4 z1 z2 HT HE
 have KC : Hid (∀ W, Below w4.heap.size w4 W → W.cell? ⟨p, 1, none⟩ = some (.slice A1 ts.length c1) ∧ W.cell? ⟨p, 6, none⟩ = some (.slice E1 l.length d1)) := fun W hW => ⟨(hW.cell (p := ⟨p, _, none⟩) MA4.out.1).trans z41, (hW.cell (p := ⟨p, _, none⟩) MA4.out.1).trans z46⟩
 have AW : Hid (∀ W, Below w4.heap.size w4 W → Calls Tryz.prog 11 #[] W fun e w' => e = .returned (.bool true) ∧ Below w4.heap.size w4 w') := fun W hW =>
  (awake_any W).mono fun e w' p => ⟨p.1, hW.trans (p.2.mono hW.size)⟩
 have C1 : Hid (∀ (j : Nat) W, Below w4.heap.size w4 W → j ≤ l.length → Calls Tryz.prog 12 #[.slice A1 ts.length c1, .slice E1 j d1] W fun e w' => e = .returned (.int .i64 0) ∧ Below w4.heap.size w4 w') := fun j W hW hj => by
  have ht := hcheck_any W A1 E1 c1 d1 ts (l.take j) (T4.out.below hW) ((E4.out.take j).below hW) MO.out.thr (MO.out.take j).fit
  rw [(MO.out.take j).check, List.length_take, Nat.min_eq_left hj] at ht
  exact ht.mono fun e w' p => ⟨p.1, hW.trans (p.2.mono hW.size)⟩
 have C0 : Hid (∀ W, Below w4.heap.size w4 W → Calls Tryz.prog 12 #[.slice A1 ts.length c1, .slice E1 l.length d1] W fun e w' => e = .returned (.int .i64 0) ∧ Below w4.heap.size w4 w') := fun W hW => C1.out l.length W hW (Nat.le_refl _)
 have C2 : Hid (∀ W, Below w4.heap.size w4 W → Calls Tryz.prog 12 #[.slice A1 ts.length c1, .slice E1 m d1] W fun e w' => e = .returned (.int .i64 0) ∧ Below w4.heap.size w4 w') := fun W hW => C1.out m W hW (by omega)
 have BD : Hid (Below w4.heap.size w4 w4.drew) := (Below.refl _ _).drew
 have hmd : m ≤ d1 := by omega
 clear z41 z46
 cases E1
 all_goals go_upto_region 4 with fail
 all_goals refine wp_region_class (C := fun W => Below w4.heap.size w4 W) (by kernel_rfl) (by kernel_rfl) BD.out ?_
 all_goals repeat (first | go_big_quiet_step (fail) | (refine' wpQuiet_take (by kernel_rfl) (fun W hW => ?_) ?_; rotate_left; (obtain ⟨x0, x1⟩ := KC.out W hW); go_simp; (first | rfl | (with_reducible exact AW.out _ hW) | (with_reducible exact C0.out _ hW) | (with_reducible exact C2.out _ hW) | (rw [if_pos hmd]; exact ⟨rfl, rfl⟩)); (simp only [Act.put, List.setIfInBounds_toArray, List.set_cons_zero, List.set_cons_succ])))
 all_goals refine wpQuiet_nil ?_
 all_goals (intro W2 hW2; (have B5 := Lib.hid (B4.out.trans (hW2.mono B4.out.size))); clear hW2)
 all_goals go_wp2_with fail
 all_goals go_ret
 all_goals exact ⟨rfl, B5.out⟩
end Go.Proofs.YtpabdmcbahmjnaaGreat
