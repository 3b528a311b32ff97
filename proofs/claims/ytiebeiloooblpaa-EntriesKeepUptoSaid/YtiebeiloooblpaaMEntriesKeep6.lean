/- Part 6 of the proof of EntriesKeep: the texts that it needs, put together by a program of this session. -/
import Derived.ChangeArms
import Derived.Deep.Slices
import Derived.ProofKit
import Derived.RowKit
import Derived.Test.YtiebeiloooblpaaRows
import Derived.Test.YtiebeiloooblpaaMEntriesKeep5
section
-- written by myprint.py, a program of this session over the kit's print.py
namespace Go.Proofs.Ytiebeiloooblpaa.E
open Go.RowKit Go.Proofs.YtiebeiloooblpaaW.PrintWords Go.Proofs.YtiebeiloooblpaaW.PrintLast Go.Proofs.YtiebeiloooblpaaW.PrintMore
attribute [local go_sem] max2_int min2_int max_two min_two max_three min_three max_four min_four   -- for this text's walks alone
set_option linter.unusedVariables false
set_option linter.unusedSimpArgs false

/-! ### entries_From: function 29 -/
def entries_From.f (k : Nat) (a0_0 : Int) (a0_1 : Int) (l0_2 : List (S33)) (a0_3 : Int) (a1 : Int) (a2 : Int) : Option ((List (S33))) := (entries_Check.f k a0_0 a0_1 l0_2 a0_3).bind fun t339 => (if t339 = 0 then (if a1 ≤ a0_0 then (some ([] : List (S33))) else ((entries_end.f a0_0 a0_1 l0_2 a0_3).bind fun t340 => (if a1 > t340 then (some ([] : List (S33))) else (if a2 < 1 then (some ([] : List (S33))) else (if 0 ≤ (wrap64 ((wrap64 (a1 - a0_0)) - 1)) then (if (wrap64 ((wrap64 (a1 - a0_0)) - 1)) ≤ (l0_2.length : Int) then ((some (l0_2.drop ((wrap64 ((wrap64 (a1 - a0_0)) - 1)) : Int).toNat : List (S33))).bind fun y341 => (if 0 ≤ (mn a2 (y341.length : Int)) then (if (mn a2 (y341.length : Int)) ≤ (y341.length : Int) then ((slicesClone_Entry.f (y341.take ((mn a2 (y341.length : Int)) : Int).toNat)).bind fun t349 => (some t349)) else (none)) else (none))) else (none)) else (none)))))) else (some ([] : List (S33))))
set_option maxHeartbeats 8000000 in
set_option maxRecDepth 100000 in
theorem entries_From.calls (k : Nat) (a0_0 : Int) (a0_1 : Int) (A0_2 : Option Addr) (c0_2 : Nat) (l0_2 : List (S33)) (a0_3 : Int) (a1 : Int) (a2 : Int) (r : List (S33)) (w : World) (hr0_2 : Kd.C k33 w A0_2 l0_2.length l0_2) (hc0_2 : l0_2.length ≤ c0_2) (h : entries_From.f k a0_0 a0_1 l0_2 a0_3 a1 a2 = some r) :
    Calls Try.prog 29 #[.agg #[.int .i64 a0_0, .int .i64 a0_1, .slice A0_2 l0_2.length c0_2, .int .i64 a0_3], .int .i64 a1, .int .i64 a2] w fun e w' => ∃ v0_ : Value, e = .returned (v0_) ∧ Kd.R k33 33 w' w.heap.size (fun _ => True) v0_ r ∧ Below w.heap.size w w' := by
  have hu26 := Try.underlying26
  have HR0_2 := Aside0.mk hr0_2
  have HC0_2 := Aside0.mk hc0_2
  clear hr0_2 hc0_2
  have HB := Aside0.mk (Below.refl w.heap.size w)
  have H : ((entries_Check.f k a0_0 a0_1 l0_2 a0_3).bind fun t339 => (if t339 = 0 then (if a1 ≤ a0_0 then (some ([] : List (S33))) else ((entries_end.f a0_0 a0_1 l0_2 a0_3).bind fun t340 => (if a1 > t340 then (some ([] : List (S33))) else (if a2 < 1 then (some ([] : List (S33))) else (if 0 ≤ (wrap64 ((wrap64 (a1 - a0_0)) - 1)) then (if (wrap64 ((wrap64 (a1 - a0_0)) - 1)) ≤ (l0_2.length : Int) then ((some (l0_2.drop ((wrap64 ((wrap64 (a1 - a0_0)) - 1)) : Int).toNat : List (S33))).bind fun y341 => (if 0 ≤ (mn a2 (y341.length : Int)) then (if (mn a2 (y341.length : Int)) ≤ (y341.length : Int) then ((slicesClone_Entry.f (y341.take ((mn a2 (y341.length : Int)) : Int).toNat)).bind fun t349 => (some t349)) else (none)) else (none))) else (none)) else (none)))))) else (some ([] : List (S33))))) = some r := h
  clear h
  replace H := Option.bind_eq_some_iff.mp H
  obtain ⟨t339, A40, H⟩ := H
  replace H : (if t339 = 0 then (if a1 ≤ a0_0 then (some ([] : List (S33))) else ((entries_end.f a0_0 a0_1 l0_2 a0_3).bind fun t340 => (if a1 > t340 then (some ([] : List (S33))) else (if a2 < 1 then (some ([] : List (S33))) else (if 0 ≤ (wrap64 ((wrap64 (a1 - a0_0)) - 1)) then (if (wrap64 ((wrap64 (a1 - a0_0)) - 1)) ≤ (l0_2.length : Int) then ((some (l0_2.drop ((wrap64 ((wrap64 (a1 - a0_0)) - 1)) : Int).toNat : List (S33))).bind fun y341 => (if 0 ≤ (mn a2 (y341.length : Int)) then (if (mn a2 (y341.length : Int)) ≤ (y341.length : Int) then ((slicesClone_Entry.f (y341.take ((mn a2 (y341.length : Int)) : Int).toNat)).bind fun t349 => (some t349)) else (none)) else (none))) else (none)) else (none)))))) else (some ([] : List (S33)))) = some r := H
  have A4 := Aside0.mk A40
  clear A40
  by_cases c5 : t339 = 0
  · rw [if_pos c5] at H
    have c5b0 : (t339 == 0) = true := beq_iff_eq.mpr c5
    have c5b1 : (t339 != 0) = false := bne_eq_false_iff_eq.mpr c5
    clear c5
    by_cases c6 : a1 ≤ a0_0
    · rw [if_pos c6] at H
      have c6b0 : decide (a1 ≤ a0_0) = true := decide_eq_true c6
      clear c6
      obtain rfl := Option.some.inj H
      go_enter Try.func29, Try.ntmps29
      go_wp2_with (first | ((with_reducible refine gate_dst (N := 3) rfl ?_); refine box_event ?hg (N := 3) ?hd (cs := #[.int .i64 a0_0, .int .i64 a0_1, .slice A0_2 l0_2.length c0_2, .int .i64 a0_3]) (t := 26) ?hr ?_; (case hd => rfl); (case hg => rfl); (case hr => first | (go_simp; done) | (go_simp; rfl)); intro gb338 hg w7 hbox hb; have n0_ := Aside0.mk (below_step (by repeat (first | (with_reducible first | exact HB.out | apply below_alloc | apply pw_below_drewN | apply below_drew1) | exact HB.out)) hb); have n1_ := Aside0.mk (hbox); have n2_ := Aside0.mk ((by rw [hg]; exact (below_size (by repeat (first | (with_reducible first | exact HB.out | apply below_alloc | apply pw_below_drewN | apply below_drew1) | exact HB.out))) : w.heap.size ≤ gb338)); have n3_ := Aside0.mk ((by rw [hg]; exact (below_size (by repeat (first | (with_reducible first | exact HB.out | apply below_alloc | apply pw_below_drewN | apply below_drew1) | exact HB.out))) : w.heap.size ≤ gb338)); clear HB; have HB := n0_; have BK338 := n1_; have GW338 := n2_; have GE338 := n3_; clear n0_ n1_ n2_ n3_; clear hb hbox hg; have hcz8_0 : w7.cell? ⟨gb338, 0, none⟩ = some (.int .i64 a0_0) := (blk_cell BK338.out 0).trans rfl; have hcz8_1 : w7.cell? ⟨gb338, 1, none⟩ = some (.int .i64 a0_1) := (blk_cell BK338.out 1).trans rfl; have hcz8_2 : w7.cell? ⟨gb338, 2, none⟩ = some (.slice A0_2 l0_2.length c0_2) := (blk_cell BK338.out 2).trans rfl; have hcz8_3 : w7.cell? ⟨gb338, 3, none⟩ = some (.int .i64 a0_3) := (blk_cell BK338.out 3).trans rfl; have hfz8_0 := blk_frozen BK338.out 0; have hfz8_1 := blk_frozen BK338.out 1; have hfz8_2 := blk_frozen BK338.out 2; have hfz8_3 := blk_frozen BK338.out 3) | ((with_reducible refine gate_callee (f := 30) rfl ?_); refine goesL_ (some 9) rfl rfl Try.func30 (by kernel_rfl) rfl #[.agg #[.int .i64 a0_0, .int .i64 a0_1, .slice A0_2 l0_2.length c0_2, .int .i64 a0_3]] rfl (by (try simp only [List.map_toArray, List.map_cons, List.map_nil]); first | done | rfl | (simp only [List.length_drop, List.length_take]; rfl)) ?_; (with_reducible refine (entries_Check.calls k a0_0 a0_1 _ _ l0_2 a0_3 t339 _ ?side1 ?side2 A4.out).mono ?_); (case side1 => repeat (first | exact (Kd.C_below HR0_2.out HB.out) | (with_reducible refine Kd.C_alloc ?_ _) | (with_reducible refine Kd.C_drewN ?_ _) | (with_reducible refine Kd.C_drew ?_))); (case side2 => exact HC0_2.out); rintro e w9 ⟨rfl, hb⟩; refine ⟨_, rfl, ?_⟩; have n0_ := Aside0.mk (blk_below (g := gb338) (o := .cells #[.int .i64 a0_0, .int .i64 a0_1, .slice A0_2 l0_2.length c0_2, .int .i64 a0_3] 26 (0, 0)) (by (with_reducible repeat (first | refine blk_drewN ?_ _ | refine blk_drew ?_ | refine blk_alloc ?_ _)); exact BK338.out) hb); have n1_ := Aside0.mk (below_step (by repeat (first | (with_reducible first | exact HB.out | apply below_alloc | apply pw_below_drewN | apply below_drew1 | refine below_set ?_ GE338.out) | exact HB.out)) hb); clear BK338; clear HB; have BK338 := n0_; have HB := n1_; clear n0_ n1_; (try clear hb); (try clear hb2); (try clear hk); (try clear hi); have hcz10_0 : w9.cell? ⟨gb338, 0, none⟩ = some (.int .i64 a0_0) := (blk_cell BK338.out 0).trans rfl; have hcz10_1 : w9.cell? ⟨gb338, 1, none⟩ = some (.int .i64 a0_1) := (blk_cell BK338.out 1).trans rfl; have hcz10_2 : w9.cell? ⟨gb338, 2, none⟩ = some (.slice A0_2 l0_2.length c0_2) := (blk_cell BK338.out 2).trans rfl; have hcz10_3 : w9.cell? ⟨gb338, 3, none⟩ = some (.int .i64 a0_3) := (blk_cell BK338.out 3).trans rfl; have hfz10_0 := blk_frozen BK338.out 0; have hfz10_1 := blk_frozen BK338.out 1; have hfz10_2 := blk_frozen BK338.out 2; have hfz10_3 := blk_frozen BK338.out 3))
      go_ret
      exact ⟨_, by first | rfl | (simp [errW_none, errW_some] <;> rfl) | (simp [*, errW_none, errW_some] <;> rfl), by first | exact Kd.R_nil _ _ _ _ _ | exact Kd.N_nil _ _ _ _ _ | exact Kd.V_nil _ _ _ _ _ | exact Kd.Q_nil _ _ _ _ _ | exact Kd.S_nil _ _ _ _ _, by repeat (first | (with_reducible first | exact HB.out | apply below_alloc | apply pw_below_drewN | apply below_drew1 | refine below_set ?_ GE338.out) | exact HB.out)⟩
    · rw [if_neg c6] at H
      have c6b0 : decide (a1 ≤ a0_0) = false := decide_eq_false c6
      clear c6
      replace H := Option.bind_eq_some_iff.mp H
      obtain ⟨t340, A110, H⟩ := H
      replace H : (if a1 > t340 then (some ([] : List (S33))) else (if a2 < 1 then (some ([] : List (S33))) else (if 0 ≤ (wrap64 ((wrap64 (a1 - a0_0)) - 1)) then (if (wrap64 ((wrap64 (a1 - a0_0)) - 1)) ≤ (l0_2.length : Int) then ((some (l0_2.drop ((wrap64 ((wrap64 (a1 - a0_0)) - 1)) : Int).toNat : List (S33))).bind fun y341 => (if 0 ≤ (mn a2 (y341.length : Int)) then (if (mn a2 (y341.length : Int)) ≤ (y341.length : Int) then ((slicesClone_Entry.f (y341.take ((mn a2 (y341.length : Int)) : Int).toNat)).bind fun t349 => (some t349)) else (none)) else (none))) else (none)) else (none)))) = some r := H
      have A11 := Aside0.mk A110
      clear A110
      by_cases c12 : a1 > t340
      · rw [if_pos c12] at H
        have c12b0 : decide (t340 < a1) = true := decide_eq_true c12
        clear c12
        obtain rfl := Option.some.inj H
        go_enter Try.func29, Try.ntmps29
        go_wp2_with (first | ((with_reducible refine gate_dst (N := 3) rfl ?_); refine box_event ?hg (N := 3) ?hd (cs := #[.int .i64 a0_0, .int .i64 a0_1, .slice A0_2 l0_2.length c0_2, .int .i64 a0_3]) (t := 26) ?hr ?_; (case hd => rfl); (case hg => rfl); (case hr => first | (go_simp; done) | (go_simp; rfl)); intro gb338 hg w13 hbox hb; have n0_ := Aside0.mk (below_step (by repeat (first | (with_reducible first | exact HB.out | apply below_alloc | apply pw_below_drewN | apply below_drew1) | exact HB.out)) hb); have n1_ := Aside0.mk (hbox); have n2_ := Aside0.mk ((by rw [hg]; exact (below_size (by repeat (first | (with_reducible first | exact HB.out | apply below_alloc | apply pw_below_drewN | apply below_drew1) | exact HB.out))) : w.heap.size ≤ gb338)); have n3_ := Aside0.mk ((by rw [hg]; exact (below_size (by repeat (first | (with_reducible first | exact HB.out | apply below_alloc | apply pw_below_drewN | apply below_drew1) | exact HB.out))) : w.heap.size ≤ gb338)); clear HB; have HB := n0_; have BK338 := n1_; have GW338 := n2_; have GE338 := n3_; clear n0_ n1_ n2_ n3_; clear hb hbox hg; have hcz14_0 : w13.cell? ⟨gb338, 0, none⟩ = some (.int .i64 a0_0) := (blk_cell BK338.out 0).trans rfl; have hcz14_1 : w13.cell? ⟨gb338, 1, none⟩ = some (.int .i64 a0_1) := (blk_cell BK338.out 1).trans rfl; have hcz14_2 : w13.cell? ⟨gb338, 2, none⟩ = some (.slice A0_2 l0_2.length c0_2) := (blk_cell BK338.out 2).trans rfl; have hcz14_3 : w13.cell? ⟨gb338, 3, none⟩ = some (.int .i64 a0_3) := (blk_cell BK338.out 3).trans rfl; have hfz14_0 := blk_frozen BK338.out 0; have hfz14_1 := blk_frozen BK338.out 1; have hfz14_2 := blk_frozen BK338.out 2; have hfz14_3 := blk_frozen BK338.out 3) | ((with_reducible refine gate_callee (f := 30) rfl ?_); refine goesL_ (some 9) rfl rfl Try.func30 (by kernel_rfl) rfl #[.agg #[.int .i64 a0_0, .int .i64 a0_1, .slice A0_2 l0_2.length c0_2, .int .i64 a0_3]] rfl (by (try simp only [List.map_toArray, List.map_cons, List.map_nil]); first | done | rfl | (simp only [List.length_drop, List.length_take]; rfl)) ?_; (with_reducible refine (entries_Check.calls k a0_0 a0_1 _ _ l0_2 a0_3 t339 _ ?side1 ?side2 A4.out).mono ?_); (case side1 => repeat (first | exact (Kd.C_below HR0_2.out HB.out) | (with_reducible refine Kd.C_alloc ?_ _) | (with_reducible refine Kd.C_drewN ?_ _) | (with_reducible refine Kd.C_drew ?_))); (case side2 => exact HC0_2.out); rintro e w15 ⟨rfl, hb⟩; refine ⟨_, rfl, ?_⟩; have n0_ := Aside0.mk (blk_below (g := gb338) (o := .cells #[.int .i64 a0_0, .int .i64 a0_1, .slice A0_2 l0_2.length c0_2, .int .i64 a0_3] 26 (0, 0)) (by (with_reducible repeat (first | refine blk_drewN ?_ _ | refine blk_drew ?_ | refine blk_alloc ?_ _)); exact BK338.out) hb); have n1_ := Aside0.mk (below_step (by repeat (first | (with_reducible first | exact HB.out | apply below_alloc | apply pw_below_drewN | apply below_drew1 | refine below_set ?_ GE338.out) | exact HB.out)) hb); clear BK338; clear HB; have BK338 := n0_; have HB := n1_; clear n0_ n1_; (try clear hb); (try clear hb2); (try clear hk); (try clear hi); have hcz16_0 : w15.cell? ⟨gb338, 0, none⟩ = some (.int .i64 a0_0) := (blk_cell BK338.out 0).trans rfl; have hcz16_1 : w15.cell? ⟨gb338, 1, none⟩ = some (.int .i64 a0_1) := (blk_cell BK338.out 1).trans rfl; have hcz16_2 : w15.cell? ⟨gb338, 2, none⟩ = some (.slice A0_2 l0_2.length c0_2) := (blk_cell BK338.out 2).trans rfl; have hcz16_3 : w15.cell? ⟨gb338, 3, none⟩ = some (.int .i64 a0_3) := (blk_cell BK338.out 3).trans rfl; have hfz16_0 := blk_frozen BK338.out 0; have hfz16_1 := blk_frozen BK338.out 1; have hfz16_2 := blk_frozen BK338.out 2; have hfz16_3 := blk_frozen BK338.out 3) | (go_at_call 44; (with_reducible refine (entries_end.calls a0_0 a0_1 _ _ l0_2 a0_3 t340 _ ?side1 ?side2 A11.out).mono ?_); (case side1 => repeat (first | exact (Kd.C_below HR0_2.out HB.out) | (with_reducible refine Kd.C_alloc ?_ _) | (with_reducible refine Kd.C_drewN ?_ _) | (with_reducible refine Kd.C_drew ?_))); (case side2 => exact HC0_2.out); rintro e w17 ⟨rfl, hb⟩; have n0_ := Aside0.mk (blk_below (g := gb338) (o := .cells #[.int .i64 a0_0, .int .i64 a0_1, .slice A0_2 l0_2.length c0_2, .int .i64 a0_3] 26 (0, 0)) (by (with_reducible repeat (first | refine blk_drewN ?_ _ | refine blk_drew ?_ | refine blk_alloc ?_ _)); exact BK338.out) hb); have n1_ := Aside0.mk (below_step (by repeat (first | (with_reducible first | exact HB.out | apply below_alloc | apply pw_below_drewN | apply below_drew1 | refine below_set ?_ GE338.out) | exact HB.out)) hb); clear BK338; clear HB; have BK338 := n0_; have HB := n1_; clear n0_ n1_; (try clear hb); (try clear hb2); (try clear hk); (try clear hi)))
        go_ret
        exact ⟨_, by first | rfl | (simp [errW_none, errW_some] <;> rfl) | (simp [*, errW_none, errW_some] <;> rfl), by first | exact Kd.R_nil _ _ _ _ _ | exact Kd.N_nil _ _ _ _ _ | exact Kd.V_nil _ _ _ _ _ | exact Kd.Q_nil _ _ _ _ _ | exact Kd.S_nil _ _ _ _ _, by repeat (first | (with_reducible first | exact HB.out | apply below_alloc | apply pw_below_drewN | apply below_drew1 | refine below_set ?_ GE338.out) | exact HB.out)⟩
      · rw [if_neg c12] at H
        have c12b0 : decide (t340 < a1) = false := decide_eq_false c12
        clear c12
        by_cases c18 : a2 < 1
        · rw [if_pos c18] at H
          have c18b0 : decide (a2 < 1) = true := decide_eq_true c18
          clear c18
          obtain rfl := Option.some.inj H
          go_enter Try.func29, Try.ntmps29
          go_wp2_with (first | ((with_reducible refine gate_dst (N := 3) rfl ?_); refine box_event ?hg (N := 3) ?hd (cs := #[.int .i64 a0_0, .int .i64 a0_1, .slice A0_2 l0_2.length c0_2, .int .i64 a0_3]) (t := 26) ?hr ?_; (case hd => rfl); (case hg => rfl); (case hr => first | (go_simp; done) | (go_simp; rfl)); intro gb338 hg w19 hbox hb; have n0_ := Aside0.mk (below_step (by repeat (first | (with_reducible first | exact HB.out | apply below_alloc | apply pw_below_drewN | apply below_drew1) | exact HB.out)) hb); have n1_ := Aside0.mk (hbox); have n2_ := Aside0.mk ((by rw [hg]; exact (below_size (by repeat (first | (with_reducible first | exact HB.out | apply below_alloc | apply pw_below_drewN | apply below_drew1) | exact HB.out))) : w.heap.size ≤ gb338)); have n3_ := Aside0.mk ((by rw [hg]; exact (below_size (by repeat (first | (with_reducible first | exact HB.out | apply below_alloc | apply pw_below_drewN | apply below_drew1) | exact HB.out))) : w.heap.size ≤ gb338)); clear HB; have HB := n0_; have BK338 := n1_; have GW338 := n2_; have GE338 := n3_; clear n0_ n1_ n2_ n3_; clear hb hbox hg; have hcz20_0 : w19.cell? ⟨gb338, 0, none⟩ = some (.int .i64 a0_0) := (blk_cell BK338.out 0).trans rfl; have hcz20_1 : w19.cell? ⟨gb338, 1, none⟩ = some (.int .i64 a0_1) := (blk_cell BK338.out 1).trans rfl; have hcz20_2 : w19.cell? ⟨gb338, 2, none⟩ = some (.slice A0_2 l0_2.length c0_2) := (blk_cell BK338.out 2).trans rfl; have hcz20_3 : w19.cell? ⟨gb338, 3, none⟩ = some (.int .i64 a0_3) := (blk_cell BK338.out 3).trans rfl; have hfz20_0 := blk_frozen BK338.out 0; have hfz20_1 := blk_frozen BK338.out 1; have hfz20_2 := blk_frozen BK338.out 2; have hfz20_3 := blk_frozen BK338.out 3) | ((with_reducible refine gate_callee (f := 30) rfl ?_); refine goesL_ (some 9) rfl rfl Try.func30 (by kernel_rfl) rfl #[.agg #[.int .i64 a0_0, .int .i64 a0_1, .slice A0_2 l0_2.length c0_2, .int .i64 a0_3]] rfl (by (try simp only [List.map_toArray, List.map_cons, List.map_nil]); first | done | rfl | (simp only [List.length_drop, List.length_take]; rfl)) ?_; (with_reducible refine (entries_Check.calls k a0_0 a0_1 _ _ l0_2 a0_3 t339 _ ?side1 ?side2 A4.out).mono ?_); (case side1 => repeat (first | exact (Kd.C_below HR0_2.out HB.out) | (with_reducible refine Kd.C_alloc ?_ _) | (with_reducible refine Kd.C_drewN ?_ _) | (with_reducible refine Kd.C_drew ?_))); (case side2 => exact HC0_2.out); rintro e w21 ⟨rfl, hb⟩; refine ⟨_, rfl, ?_⟩; have n0_ := Aside0.mk (blk_below (g := gb338) (o := .cells #[.int .i64 a0_0, .int .i64 a0_1, .slice A0_2 l0_2.length c0_2, .int .i64 a0_3] 26 (0, 0)) (by (with_reducible repeat (first | refine blk_drewN ?_ _ | refine blk_drew ?_ | refine blk_alloc ?_ _)); exact BK338.out) hb); have n1_ := Aside0.mk (below_step (by repeat (first | (with_reducible first | exact HB.out | apply below_alloc | apply pw_below_drewN | apply below_drew1 | refine below_set ?_ GE338.out) | exact HB.out)) hb); clear BK338; clear HB; have BK338 := n0_; have HB := n1_; clear n0_ n1_; (try clear hb); (try clear hb2); (try clear hk); (try clear hi); have hcz22_0 : w21.cell? ⟨gb338, 0, none⟩ = some (.int .i64 a0_0) := (blk_cell BK338.out 0).trans rfl; have hcz22_1 : w21.cell? ⟨gb338, 1, none⟩ = some (.int .i64 a0_1) := (blk_cell BK338.out 1).trans rfl; have hcz22_2 : w21.cell? ⟨gb338, 2, none⟩ = some (.slice A0_2 l0_2.length c0_2) := (blk_cell BK338.out 2).trans rfl; have hcz22_3 : w21.cell? ⟨gb338, 3, none⟩ = some (.int .i64 a0_3) := (blk_cell BK338.out 3).trans rfl; have hfz22_0 := blk_frozen BK338.out 0; have hfz22_1 := blk_frozen BK338.out 1; have hfz22_2 := blk_frozen BK338.out 2; have hfz22_3 := blk_frozen BK338.out 3) | (go_at_call 44; (with_reducible refine (entries_end.calls a0_0 a0_1 _ _ l0_2 a0_3 t340 _ ?side1 ?side2 A11.out).mono ?_); (case side1 => repeat (first | exact (Kd.C_below HR0_2.out HB.out) | (with_reducible refine Kd.C_alloc ?_ _) | (with_reducible refine Kd.C_drewN ?_ _) | (with_reducible refine Kd.C_drew ?_))); (case side2 => exact HC0_2.out); rintro e w23 ⟨rfl, hb⟩; have n0_ := Aside0.mk (blk_below (g := gb338) (o := .cells #[.int .i64 a0_0, .int .i64 a0_1, .slice A0_2 l0_2.length c0_2, .int .i64 a0_3] 26 (0, 0)) (by (with_reducible repeat (first | refine blk_drewN ?_ _ | refine blk_drew ?_ | refine blk_alloc ?_ _)); exact BK338.out) hb); have n1_ := Aside0.mk (below_step (by repeat (first | (with_reducible first | exact HB.out | apply below_alloc | apply pw_below_drewN | apply below_drew1 | refine below_set ?_ GE338.out) | exact HB.out)) hb); clear BK338; clear HB; have BK338 := n0_; have HB := n1_; clear n0_ n1_; (try clear hb); (try clear hb2); (try clear hk); (try clear hi)))
          go_ret
          exact ⟨_, by first | rfl | (simp [errW_none, errW_some] <;> rfl) | (simp [*, errW_none, errW_some] <;> rfl), by first | exact Kd.R_nil _ _ _ _ _ | exact Kd.N_nil _ _ _ _ _ | exact Kd.V_nil _ _ _ _ _ | exact Kd.Q_nil _ _ _ _ _ | exact Kd.S_nil _ _ _ _ _, by repeat (first | (with_reducible first | exact HB.out | apply below_alloc | apply pw_below_drewN | apply below_drew1 | refine below_set ?_ GE338.out) | exact HB.out)⟩
        · rw [if_neg c18] at H
          have c18b0 : decide (a2 < 1) = false := decide_eq_false c18
          clear c18
          obtain ⟨ji24, hji24⟩ : ∃ j_ : Int, (wrap64 ((wrap64 (a1 - a0_0)) - 1)) = j_ := ⟨_, rfl⟩
          replace H : (if 0 ≤ (ji24) then (if (ji24) ≤ (l0_2.length : Int) then ((some (l0_2.drop ((ji24) : Int).toNat : List (S33))).bind fun y341 => (if 0 ≤ (mn a2 (y341.length : Int)) then (if (mn a2 (y341.length : Int)) ≤ (y341.length : Int) then ((slicesClone_Entry.f (y341.take ((mn a2 (y341.length : Int)) : Int).toNat)).bind fun t349 => (some t349)) else (none)) else (none))) else (none)) else (none)) = some r := by first | (rw [hji24] at H; exact H) | (simp only [hji24] at H ⊢; exact H)
          (try rw [hji24] at A4)
          (try rw [hji24] at A11)
          have hji24w : (IntKind.i64.wrap ((wrap64 (a1 - a0_0)) - 1)) = ji24 := (i64_w _).trans hji24
          by_cases c25 : 0 ≤ (ji24)
          · rw [if_pos c25] at H
            have c25b0 := eq_true c25
            have c25b1 : decide (0 ≤ (ji24)) = true := decide_eq_true c25
            clear c25
            by_cases c26 : (ji24) ≤ (l0_2.length : Int)
            · rw [if_pos c26] at H
              have c26b0 := eq_true c26
              have c26b1 : decide ((ji24) ≤ (l0_2.length : Int)) = true := decide_eq_true c26
              clear c26
              obtain ⟨y341, hy341⟩ : ∃ y_ : List (S33), y_ = (l0_2.drop ((ji24) : Int).toNat) := ⟨_, rfl⟩
              replace H : (if 0 ≤ (mn a2 (y341.length : Int)) then (if (mn a2 (y341.length : Int)) ≤ (y341.length : Int) then ((slicesClone_Entry.f (y341.take ((mn a2 (y341.length : Int)) : Int).toNat)).bind fun t349 => (some t349)) else (none)) else (none)) = some r := by first | (rw [hy341]; with_reducible exact H) | (have H2_ := (Option.bind_some _ _).symm.trans H; rw [hy341]; with_reducible exact H2_) | (have H2_ := (Option.bind_some _ _).symm.trans H; with_reducible exact H2_) | with_reducible exact H | (rw [hy341]; exact H) | exact H
              have Ny341 := Aside0.mk hy341
              clear hy341
              obtain ⟨ji27, hji27⟩ : ∃ j_ : Int, (mn a2 (y341.length : Int)) = j_ := ⟨_, rfl⟩
              replace H : (if 0 ≤ (ji27) then (if (ji27) ≤ (y341.length : Int) then ((slicesClone_Entry.f (y341.take ((ji27) : Int).toNat)).bind fun t349 => (some t349)) else (none)) else (none)) = some r := by first | (rw [hji27] at H; exact H) | (simp only [hji27] at H ⊢; exact H)
              (try rw [hji27] at A4)
              (try rw [hji27] at A11)
              have hji27_ : (if (y341.length : Int) < a2 then (y341.length : Int) else a2) = ji27 := hji27
              by_cases c28 : 0 ≤ (ji27)
              · rw [if_pos c28] at H
                have c28b0 := eq_true c28
                have c28b1 : decide (0 ≤ (ji27)) = true := decide_eq_true c28
                clear c28
                by_cases c29 : (ji27) ≤ (y341.length : Int)
                · rw [if_pos c29] at H
                  have c29b0 := eq_true c29
                  have c29b1 : decide ((ji27) ≤ (y341.length : Int)) = true := decide_eq_true c29
                  clear c29
                  obtain ⟨y345, hy345⟩ : ∃ y_ : List (S33), y_ = (y341.take ((ji27) : Int).toNat) := ⟨_, rfl⟩
                  replace H : ((slicesClone_Entry.f y345).bind fun t349 => (some t349)) = some r := by first | (rw [hy345]; with_reducible exact H) | (have H2_ := (Option.bind_some _ _).symm.trans H; rw [hy345]; with_reducible exact H2_) | (have H2_ := (Option.bind_some _ _).symm.trans H; with_reducible exact H2_) | with_reducible exact H | (rw [hy345]; exact H) | exact H
                  have Ny345 := Aside0.mk hy345
                  clear hy345
                  replace H := Option.bind_eq_some_iff.mp H
                  obtain ⟨t349, A300, H⟩ := H
                  replace H : (some t349) = some r := H
                  have A30 := Aside0.mk A300
                  clear A300
                  obtain rfl := Option.some.inj H
                  go_enter Try.func29, Try.ntmps29
                  go_wp2_with (first | ((with_reducible refine gate_dst (N := 3) rfl ?_); refine box_event ?hg (N := 3) ?hd (cs := #[.int .i64 a0_0, .int .i64 a0_1, .slice A0_2 l0_2.length c0_2, .int .i64 a0_3]) (t := 26) ?hr ?_; (case hd => rfl); (case hg => rfl); (case hr => first | (go_simp; done) | (go_simp; rfl)); intro gb338 hg w31 hbox hb; have n0_ := Aside0.mk (below_step (by repeat (first | (with_reducible first | exact HB.out | apply below_alloc | apply pw_below_drewN | apply below_drew1) | exact HB.out)) hb); have n1_ := Aside0.mk (hbox); have n2_ := Aside0.mk ((by rw [hg]; exact (below_size (by repeat (first | (with_reducible first | exact HB.out | apply below_alloc | apply pw_below_drewN | apply below_drew1) | exact HB.out))) : w.heap.size ≤ gb338)); have n3_ := Aside0.mk ((by rw [hg]; exact (below_size (by repeat (first | (with_reducible first | exact HB.out | apply below_alloc | apply pw_below_drewN | apply below_drew1) | exact HB.out))) : w.heap.size ≤ gb338)); clear HB; have HB := n0_; have BK338 := n1_; have GW338 := n2_; have GE338 := n3_; clear n0_ n1_ n2_ n3_; clear hb hbox hg; have hcz32_0 : w31.cell? ⟨gb338, 0, none⟩ = some (.int .i64 a0_0) := (blk_cell BK338.out 0).trans rfl; have hcz32_1 : w31.cell? ⟨gb338, 1, none⟩ = some (.int .i64 a0_1) := (blk_cell BK338.out 1).trans rfl; have hcz32_2 : w31.cell? ⟨gb338, 2, none⟩ = some (.slice A0_2 l0_2.length c0_2) := (blk_cell BK338.out 2).trans rfl; have hcz32_3 : w31.cell? ⟨gb338, 3, none⟩ = some (.int .i64 a0_3) := (blk_cell BK338.out 3).trans rfl; have hfz32_0 := blk_frozen BK338.out 0; have hfz32_1 := blk_frozen BK338.out 1; have hfz32_2 := blk_frozen BK338.out 2; have hfz32_3 := blk_frozen BK338.out 3) | ((with_reducible refine gate_callee (f := 30) rfl ?_); refine goesL_ (some 9) rfl rfl Try.func30 (by kernel_rfl) rfl #[.agg #[.int .i64 a0_0, .int .i64 a0_1, .slice A0_2 l0_2.length c0_2, .int .i64 a0_3]] rfl (by (try simp only [List.map_toArray, List.map_cons, List.map_nil]); first | done | rfl | (simp only [List.length_drop, List.length_take]; rfl)) ?_; (with_reducible refine (entries_Check.calls k a0_0 a0_1 _ _ l0_2 a0_3 t339 _ ?side1 ?side2 A4.out).mono ?_); (case side1 => repeat (first | exact (Kd.C_below HR0_2.out HB.out) | (with_reducible refine Kd.C_alloc ?_ _) | (with_reducible refine Kd.C_drewN ?_ _) | (with_reducible refine Kd.C_drew ?_))); (case side2 => exact HC0_2.out); rintro e w33 ⟨rfl, hb⟩; refine ⟨_, rfl, ?_⟩; have n0_ := Aside0.mk (blk_below (g := gb338) (o := .cells #[.int .i64 a0_0, .int .i64 a0_1, .slice A0_2 l0_2.length c0_2, .int .i64 a0_3] 26 (0, 0)) (by (with_reducible repeat (first | refine blk_drewN ?_ _ | refine blk_drew ?_ | refine blk_alloc ?_ _)); exact BK338.out) hb); have n1_ := Aside0.mk (below_step (by repeat (first | (with_reducible first | exact HB.out | apply below_alloc | apply pw_below_drewN | apply below_drew1 | refine below_set ?_ GE338.out) | exact HB.out)) hb); clear BK338; clear HB; have BK338 := n0_; have HB := n1_; clear n0_ n1_; (try clear hb); (try clear hb2); (try clear hk); (try clear hi); have hcz34_0 : w33.cell? ⟨gb338, 0, none⟩ = some (.int .i64 a0_0) := (blk_cell BK338.out 0).trans rfl; have hcz34_1 : w33.cell? ⟨gb338, 1, none⟩ = some (.int .i64 a0_1) := (blk_cell BK338.out 1).trans rfl; have hcz34_2 : w33.cell? ⟨gb338, 2, none⟩ = some (.slice A0_2 l0_2.length c0_2) := (blk_cell BK338.out 2).trans rfl; have hcz34_3 : w33.cell? ⟨gb338, 3, none⟩ = some (.int .i64 a0_3) := (blk_cell BK338.out 3).trans rfl; have hfz34_0 := blk_frozen BK338.out 0; have hfz34_1 := blk_frozen BK338.out 1; have hfz34_2 := blk_frozen BK338.out 2; have hfz34_3 := blk_frozen BK338.out 3) | (go_at_call 44; (with_reducible refine (entries_end.calls a0_0 a0_1 _ _ l0_2 a0_3 t340 _ ?side1 ?side2 A11.out).mono ?_); (case side1 => repeat (first | exact (Kd.C_below HR0_2.out HB.out) | (with_reducible refine Kd.C_alloc ?_ _) | (with_reducible refine Kd.C_drewN ?_ _) | (with_reducible refine Kd.C_drew ?_))); (case side2 => exact HC0_2.out); rintro e w35 ⟨rfl, hb⟩; have n0_ := Aside0.mk (blk_below (g := gb338) (o := .cells #[.int .i64 a0_0, .int .i64 a0_1, .slice A0_2 l0_2.length c0_2, .int .i64 a0_3] 26 (0, 0)) (by (with_reducible repeat (first | refine blk_drewN ?_ _ | refine blk_drew ?_ | refine blk_alloc ?_ _)); exact BK338.out) hb); have n1_ := Aside0.mk (below_step (by repeat (first | (with_reducible first | exact HB.out | apply below_alloc | apply pw_below_drewN | apply below_drew1 | refine below_set ?_ GE338.out) | exact HB.out)) hb); clear BK338; clear HB; have BK338 := n0_; have HB := n1_; clear n0_ n1_; (try clear hb); (try clear hb2); (try clear hk); (try clear hi); have hcz36_0 : w35.cell? ⟨gb338, 0, none⟩ = some (.int .i64 a0_0) := (blk_cell BK338.out 0).trans rfl; have hcz36_1 : w35.cell? ⟨gb338, 1, none⟩ = some (.int .i64 a0_1) := (blk_cell BK338.out 1).trans rfl; have hcz36_2 : w35.cell? ⟨gb338, 2, none⟩ = some (.slice A0_2 l0_2.length c0_2) := (blk_cell BK338.out 2).trans rfl; have hcz36_3 : w35.cell? ⟨gb338, 3, none⟩ = some (.int .i64 a0_3) := (blk_cell BK338.out 3).trans rfl; have hfz36_0 := blk_frozen BK338.out 0; have hfz36_1 := blk_frozen BK338.out 1; have hfz36_2 := blk_frozen BK338.out 2; have hfz36_3 := blk_frozen BK338.out 3; have q37 : ((ji24) : Int) ≤ ((l0_2.length : Int) : Int) := of_decide_eq_true (by first | (with_reducible assumption) | assumption); obtain ⟨i037, hi037, _, hsz37, _⟩ := info_parts info33; have hroom37 : l0_2.length ≤ c0_2 := HC0_2.out; have hC37 : Kd.C k33 _ A0_2 l0_2.length l0_2 := HR0_2.out; have q037 : (0 : Int) ≤ ((ji24) : Int) := of_decide_eq_true (by first | (with_reducible assumption) | assumption); have hcut37 := cut_from (P := Try.prog) 24 33 .i64 Try.underlying24 hi037 3 hsz37 A0_2 l0_2.length c0_2 (ji24) q037 q37; have hr37 := Kd.C_drop (m := ((ji24) : Int).toNat) (c := c0_2) hC37 (by omega) hroom37; obtain ⟨A37, hA37⟩ : ∃ A1, A1 = (if c0_2 = ((ji24) : Int).toNat then A0_2 else (A0_2 : Option Addr).map (·.add (((ji24) : Int).toNat * 3))) := ⟨_, rfl⟩; obtain ⟨c37, hc37⟩ : ∃ c1, c1 = c0_2 - ((ji24) : Int).toNat := ⟨_, rfl⟩; have hy37 : y341.length = l0_2.length - ((ji24) : Int).toNat := (by rw [Ny341.out, List.length_drop] <;> omega); rw [show (l0_2).drop ((ji24) : Int).toNat = y341 from Ny341.out.symm] at hr37; replace hr37 : Kd.C k33 _ A37 y341.length y341 := (by rw [hA37]; exact hr37); rw [← hy37, ← hA37, ← hc37] at hcut37; have HR344 := Aside0.mk hr37; have HC344 := Aside0.mk (show y341.length ≤ c37 from by rw [hy37, hc37]; exact Nat.sub_le_sub_right hroom37 _); clear hr37 hC37 hroom37 hi037 hsz37 hc37; have KY37 := Aside0.mk hy37; have KA37 := Aside0.mk hA37; clear hy37 hA37; replace q37 := eq_true q37; have q38 : ((ji27) : Int) ≤ ((y341.length : Int) : Int) := of_decide_eq_true (by first | (with_reducible assumption) | assumption); obtain ⟨i038, hi038, _, hsz38, _⟩ := info_parts info33; have hroom38 : y341.length ≤ c37 := HC344.out; have hC38 : Kd.C k33 _ A37 y341.length y341 := HR344.out; have hcut38 := cut_to (P := Try.prog) 24 33 .i64 Try.underlying24 hi038 A37 y341.length c37 (ji27) (of_decide_eq_true (by first | (with_reducible assumption) | assumption)) q38 hroom38; have hr38 := Kd.C_take (m := ((ji27) : Int).toNat) hC38 (by omega); have hy38 : y345.length = ((ji27) : Int).toNat := (by rw [Ny345.out, List.length_take]; omega); rw [← Ny345.out] at hr38; rw [← hy38] at hcut38; have HR348 := Aside0.mk hr38; have HC348 := Aside0.mk (show y345.length ≤ c37 from by omega); clear hr38 hC38 hroom38 hi038 hsz38; have KY38 := Aside0.mk hy38; clear hy38; replace q38 := eq_true q38) | ((with_reducible refine gate_callee (f := 39) rfl ?_); refine goesL_ (some 43) rfl rfl Try.func39 (by kernel_rfl) rfl #[.slice A37 y345.length c37] rfl (by (try simp only [List.map_toArray, List.map_cons, List.map_nil]); first | done | rfl | (simp only [List.length_drop, List.length_take]; rfl)) ?_; (with_reducible refine (slicesClone_Entry.calls _ _ y345 t349 _ ?side1 ?side2 A30.out).mono ?_); (case side1 => repeat (first | exact (Kd.C_below HR348.out HB.out) | (with_reducible refine Kd.C_alloc ?_ _) | (with_reducible refine Kd.C_drewN ?_ _) | (with_reducible refine Kd.C_drew ?_))); (case side2 => exact HC348.out); rintro e w39 ⟨v350, rfl, ho0, hb⟩; refine ⟨_, rfl, ?_⟩; have n0_ := Aside0.mk (Kd.R_lower ho0 (below_size (by repeat (first | (with_reducible first | exact HB.out | apply below_alloc | apply pw_below_drewN | apply below_drew1 | refine below_set ?_ GE338.out) | exact HB.out)))); have n1_ := Aside0.mk (blk_below (g := gb338) (o := .cells #[.int .i64 a0_0, .int .i64 a0_1, .slice A0_2 l0_2.length c0_2, .int .i64 a0_3] 26 (0, 0)) (by (with_reducible repeat (first | refine blk_drewN ?_ _ | refine blk_drew ?_ | refine blk_alloc ?_ _)); exact BK338.out) hb); have n2_ := Aside0.mk (below_step (by repeat (first | (with_reducible first | exact HB.out | apply below_alloc | apply pw_below_drewN | apply below_drew1 | refine below_set ?_ GE338.out) | exact HB.out)) hb); clear BK338; clear HB; have HO351 := n0_; have BK338 := n1_; have HB := n2_; clear n0_ n1_ n2_; (try clear hb); (try clear hb2); (try clear hk); (try clear hi); (try clear ho0)))
                  go_ret
                  exact ⟨_, by first | rfl | (simp [errW_none, errW_some] <;> rfl) | (simp only [← hji24, ← hji27]; first | rfl | (simp [errW_none, errW_some] <;> rfl)) | (simp [*, errW_none, errW_some] <;> rfl), by (with_reducible repeat (first | apply Kd.R_alloc | apply Kd.R_drewN | apply Kd.R_drew)); exact HO351.out, by repeat (first | (with_reducible first | exact HB.out | apply below_alloc | apply pw_below_drewN | apply below_drew1 | refine below_set ?_ GE338.out) | exact HB.out)⟩
                · rw [if_neg c29] at H
                  exact absurd H (by simp)
              · rw [if_neg c28] at H
                exact absurd H (by simp)
            · rw [if_neg c26] at H
              exact absurd H (by simp)
          · rw [if_neg c25] at H
            exact absurd H (by simp)
  · rw [if_neg c5] at H
    have c5b0 : (t339 == 0) = false := beq_eq_false_iff_ne.mpr c5
    have c5b1 : (t339 != 0) = true := bne_iff_ne.mpr c5
    obtain rfl := Option.some.inj H
    go_enter Try.func29, Try.ntmps29
    go_wp2_with (first | ((with_reducible refine gate_dst (N := 3) rfl ?_); refine box_event ?hg (N := 3) ?hd (cs := #[.int .i64 a0_0, .int .i64 a0_1, .slice A0_2 l0_2.length c0_2, .int .i64 a0_3]) (t := 26) ?hr ?_; (case hd => rfl); (case hg => rfl); (case hr => first | (go_simp; done) | (go_simp; rfl)); intro gb338 hg w40 hbox hb; have n0_ := Aside0.mk (below_step (by repeat (first | (with_reducible first | exact HB.out | apply below_alloc | apply pw_below_drewN | apply below_drew1) | exact HB.out)) hb); have n1_ := Aside0.mk (hbox); have n2_ := Aside0.mk ((by rw [hg]; exact (below_size (by repeat (first | (with_reducible first | exact HB.out | apply below_alloc | apply pw_below_drewN | apply below_drew1) | exact HB.out))) : w.heap.size ≤ gb338)); have n3_ := Aside0.mk ((by rw [hg]; exact (below_size (by repeat (first | (with_reducible first | exact HB.out | apply below_alloc | apply pw_below_drewN | apply below_drew1) | exact HB.out))) : w.heap.size ≤ gb338)); clear HB; have HB := n0_; have BK338 := n1_; have GW338 := n2_; have GE338 := n3_; clear n0_ n1_ n2_ n3_; clear hb hbox hg; have hcz41_0 : w40.cell? ⟨gb338, 0, none⟩ = some (.int .i64 a0_0) := (blk_cell BK338.out 0).trans rfl; have hcz41_1 : w40.cell? ⟨gb338, 1, none⟩ = some (.int .i64 a0_1) := (blk_cell BK338.out 1).trans rfl; have hcz41_2 : w40.cell? ⟨gb338, 2, none⟩ = some (.slice A0_2 l0_2.length c0_2) := (blk_cell BK338.out 2).trans rfl; have hcz41_3 : w40.cell? ⟨gb338, 3, none⟩ = some (.int .i64 a0_3) := (blk_cell BK338.out 3).trans rfl; have hfz41_0 := blk_frozen BK338.out 0; have hfz41_1 := blk_frozen BK338.out 1; have hfz41_2 := blk_frozen BK338.out 2; have hfz41_3 := blk_frozen BK338.out 3) | ((with_reducible refine gate_callee (f := 30) rfl ?_); refine goesL_ (some 9) rfl rfl Try.func30 (by kernel_rfl) rfl #[.agg #[.int .i64 a0_0, .int .i64 a0_1, .slice A0_2 l0_2.length c0_2, .int .i64 a0_3]] rfl (by (try simp only [List.map_toArray, List.map_cons, List.map_nil]); first | done | rfl | (simp only [List.length_drop, List.length_take]; rfl)) ?_; (with_reducible refine (entries_Check.calls k a0_0 a0_1 _ _ l0_2 a0_3 t339 _ ?side1 ?side2 A4.out).mono ?_); (case side1 => repeat (first | exact (Kd.C_below HR0_2.out HB.out) | (with_reducible refine Kd.C_alloc ?_ _) | (with_reducible refine Kd.C_drewN ?_ _) | (with_reducible refine Kd.C_drew ?_))); (case side2 => exact HC0_2.out); rintro e w42 ⟨rfl, hb⟩; refine ⟨_, rfl, ?_⟩; have n0_ := Aside0.mk (blk_below (g := gb338) (o := .cells #[.int .i64 a0_0, .int .i64 a0_1, .slice A0_2 l0_2.length c0_2, .int .i64 a0_3] 26 (0, 0)) (by (with_reducible repeat (first | refine blk_drewN ?_ _ | refine blk_drew ?_ | refine blk_alloc ?_ _)); exact BK338.out) hb); have n1_ := Aside0.mk (below_step (by repeat (first | (with_reducible first | exact HB.out | apply below_alloc | apply pw_below_drewN | apply below_drew1 | refine below_set ?_ GE338.out) | exact HB.out)) hb); clear BK338; clear HB; have BK338 := n0_; have HB := n1_; clear n0_ n1_; (try clear hb); (try clear hb2); (try clear hk); (try clear hi)))
    go_ret
    exact ⟨_, by first | rfl | (simp [errW_none, errW_some] <;> rfl) | (simp [*, errW_none, errW_some] <;> rfl), by first | exact Kd.R_nil _ _ _ _ _ | exact Kd.N_nil _ _ _ _ _ | exact Kd.V_nil _ _ _ _ _ | exact Kd.Q_nil _ _ _ _ _ | exact Kd.S_nil _ _ _ _ _, by repeat (first | (with_reducible first | exact HB.out | apply below_alloc | apply pw_below_drewN | apply below_drew1 | refine below_set ?_ GE338.out) | exact HB.out)⟩

end Go.Proofs.Ytiebeiloooblpaa.E
end
section
-- written by myprint.py, a program of this session over the kit's print.py
namespace Go.Proofs.Ytiebeiloooblpaa.E
open Go.Proofs.YtiebeiloooblpaaST
open Go.RowKit Go.Proofs.YtiebeiloooblpaaW.PrintWords Go.Proofs.YtiebeiloooblpaaW.PrintLast Go.Proofs.YtiebeiloooblpaaW.PrintMore
attribute [local go_sem] max2_int min2_int max_two min_two max_three min_three max_four min_four   -- for this text's walks alone
set_option linter.unusedVariables false
set_option linter.unusedSimpArgs false

attribute [local go_sem high] eqA23
/-! ### rialtolaw08_EntriesKeep: function 10 -/
def rialtolaw08_EntriesKeep.j0 : Nat → Bool → Int → Int → List (S33) → Int → Int → Int → List (S33) → Int → Option (Bool)
  | 0, _, _, _, _, _, _, _, _, _ => none
  | k + 1, x46, x608000, x608001, x608002, x608003, x621000, x621001, x621002, x621003 => if x46 = true then (some false) else ((entries_From.f k x621000 x621001 x621002 x621003 (wrap64 (x608000 + 1)) (wrap64 (x608003 - x608000))).bind fun t623 => ((entries_From.f k x608000 x608001 x608002 x608003 (wrap64 (x608000 + 1)) (wrap64 (x608003 - x608000))).bind fun t626 => ((rialtoref08_SameEntries.f k t623 t626).bind fun t629 => (if t629 = true then ((rialtolaw08_live.f k).bind fun t630 => (some t630)) else (some false)))))
def rialtolaw08_EntriesKeep.f (k : Nat) (a0_0 : Int) (a0_1 : Int) (l0_2 : List (S33)) (a0_3 : Int) (a1_0 : Int) (a1_1 : Int) (l1_2 : List (S33)) (a1_3 : Int) : Option (Bool) := (entries_Check.f k a0_0 a0_1 l0_2 a0_3).bind fun t609 => (if t609 = 0 then ((entries_Accept.f k a0_0 a0_1 l0_2 a0_3 a1_0 a1_1 l1_2 a1_3).bind fun bt611 => (if bt611.2.2.2.2.2.2 = 0 then ((entries_Check.f k bt611.1 bt611.2.1 bt611.2.2.1 bt611.2.2.2.1).bind fun t622 => (if t622 = 0 then (if bt611.2.2.2.1 < a0_3 then (rialtolaw08_EntriesKeep.j0 k true a0_0 a0_1 l0_2 a0_3 bt611.1 bt611.2.1 bt611.2.2.1 bt611.2.2.2.1) else (rialtolaw08_EntriesKeep.j0 k (!(bt611.1 == a0_0) || (!(bt611.2.1 == a0_1))) a0_0 a0_1 l0_2 a0_3 bt611.1 bt611.2.1 bt611.2.2.1 bt611.2.2.2.1)) else (rialtolaw08_EntriesKeep.j0 k true a0_0 a0_1 l0_2 a0_3 bt611.1 bt611.2.1 bt611.2.2.1 bt611.2.2.2.1))) else ((rialtolaw08_live.f k).bind fun t621 => (some t621)))) else ((rialtolaw08_live.f k).bind fun t610 => (some t610)))
def rialtolaw08_EntriesKeep.T9 : Bool × List (List Nat × List Nat) := (true, [([], []), ([], []), ([1], [1]), ([2], [2]), ([3], [3]), ([], []), ([0, 4, 5], [0, 4, 5]), ([], []), ([], []), ([8], [8]), ([9], [9]), ([10], [10]), ([], []), ([7, 11, 12, 6], [7, 11, 12]), ([6, 13, 13], [6, 13]), ([14, 14], [14]), ([15, 15], [15]), ([15, 16], [15, 16]), ([17, 16, 0, 1, 2, 3, 4, 5, 6, 7, 8, 9, 10, 11, 12, 13, 14, 15, 16, 17], [17])])
def rialtolaw08_EntriesKeep.B9 : List Nat := [0, 0, 2, 6, 14, 0, 63, 0, 0, 256, 768, 1792, 0, 8191, 16383, 32767, 65535, 131071, 262143]
theorem rialtolaw08_EntriesKeep.tab9 : rtab .any (opsOf Try.f10 9) = rialtolaw08_EntriesKeep.T9 := by kernel_rfl
theorem rialtolaw08_EntriesKeep.bits9 : waitsOk rialtolaw08_EntriesKeep.T9.2 rialtolaw08_EntriesKeep.B9 = true := by kernel_rfl
set_option maxHeartbeats 8000000 in
set_option maxRecDepth 100000 in
theorem rialtolaw08_EntriesKeep.calls (k : Nat) (a0_0 : Int) (a0_1 : Int) (A0_2 : Option Addr) (c0_2 : Nat) (l0_2 : List (S33)) (a0_3 : Int) (a1_0 : Int) (a1_1 : Int) (A1_2 : Option Addr) (c1_2 : Nat) (l1_2 : List (S33)) (a1_3 : Int) (r : Bool) (w : World) (hr0_2 : Kd.C k33 w A0_2 l0_2.length l0_2) (hc0_2 : l0_2.length ≤ c0_2) (hr1_2 : Kd.C k33 w A1_2 l1_2.length l1_2) (hc1_2 : l1_2.length ≤ c1_2) (h : rialtolaw08_EntriesKeep.f k a0_0 a0_1 l0_2 a0_3 a1_0 a1_1 l1_2 a1_3 = some r) :
    Calls Try.prog 10 #[.agg #[.int .i64 a0_0, .int .i64 a0_1, .slice A0_2 l0_2.length c0_2, .int .i64 a0_3], .agg #[.int .i64 a1_0, .int .i64 a1_1, .slice A1_2 l1_2.length c1_2, .int .i64 a1_3]] w fun e w' => e = .returned (.bool r) ∧ Below w.heap.size w w' := by
  have hu26 := Try.underlying26
  have hu41 := Try.underlying41
  have hu23 := Try.underlying23
  have HR0_2 := Aside0.mk hr0_2
  have HC0_2 := Aside0.mk hc0_2
  clear hr0_2 hc0_2
  have HR1_2 := Aside0.mk hr1_2
  have HC1_2 := Aside0.mk hc1_2
  clear hr1_2 hc1_2
  have HB := Aside0.mk (Below.refl w.heap.size w)
  have H : ((entries_Check.f k a0_0 a0_1 l0_2 a0_3).bind fun t609 => (if t609 = 0 then ((entries_Accept.f k a0_0 a0_1 l0_2 a0_3 a1_0 a1_1 l1_2 a1_3).bind fun bt611 => (if bt611.2.2.2.2.2.2 = 0 then ((entries_Check.f k bt611.1 bt611.2.1 bt611.2.2.1 bt611.2.2.2.1).bind fun t622 => (if t622 = 0 then (if bt611.2.2.2.1 < a0_3 then (rialtolaw08_EntriesKeep.j0 k true a0_0 a0_1 l0_2 a0_3 bt611.1 bt611.2.1 bt611.2.2.1 bt611.2.2.2.1) else (rialtolaw08_EntriesKeep.j0 k (!(bt611.1 == a0_0) || (!(bt611.2.1 == a0_1))) a0_0 a0_1 l0_2 a0_3 bt611.1 bt611.2.1 bt611.2.2.1 bt611.2.2.2.1)) else (rialtolaw08_EntriesKeep.j0 k true a0_0 a0_1 l0_2 a0_3 bt611.1 bt611.2.1 bt611.2.2.1 bt611.2.2.2.1))) else ((rialtolaw08_live.f k).bind fun t621 => (some t621)))) else ((rialtolaw08_live.f k).bind fun t610 => (some t610)))) = some r := h
  clear h
  replace H := Option.bind_eq_some_iff.mp H
  obtain ⟨t609, A30, H⟩ := H
  replace H : (if t609 = 0 then ((entries_Accept.f k a0_0 a0_1 l0_2 a0_3 a1_0 a1_1 l1_2 a1_3).bind fun bt611 => (if bt611.2.2.2.2.2.2 = 0 then ((entries_Check.f k bt611.1 bt611.2.1 bt611.2.2.1 bt611.2.2.2.1).bind fun t622 => (if t622 = 0 then (if bt611.2.2.2.1 < a0_3 then (rialtolaw08_EntriesKeep.j0 k true a0_0 a0_1 l0_2 a0_3 bt611.1 bt611.2.1 bt611.2.2.1 bt611.2.2.2.1) else (rialtolaw08_EntriesKeep.j0 k (!(bt611.1 == a0_0) || (!(bt611.2.1 == a0_1))) a0_0 a0_1 l0_2 a0_3 bt611.1 bt611.2.1 bt611.2.2.1 bt611.2.2.2.1)) else (rialtolaw08_EntriesKeep.j0 k true a0_0 a0_1 l0_2 a0_3 bt611.1 bt611.2.1 bt611.2.2.1 bt611.2.2.2.1))) else ((rialtolaw08_live.f k).bind fun t621 => (some t621)))) else ((rialtolaw08_live.f k).bind fun t610 => (some t610))) = some r := H
  have A3 := Aside0.mk A30
  clear A30
  by_cases c4 : t609 = 0
  · rw [if_pos c4] at H
    have c4b0 : (t609 == 0) = true := beq_iff_eq.mpr c4
    have c4b1 : (t609 != 0) = false := bne_eq_false_iff_eq.mpr c4
    clear c4
    replace H := Option.bind_eq_some_iff.mp H
    obtain ⟨⟨t611, t612, t613, t616, t617, t618, t619⟩, A50, H⟩ := H
    replace H : (if t619 = 0 then ((entries_Check.f k t611 t612 t613 t616).bind fun t622 => (if t622 = 0 then (if t616 < a0_3 then (rialtolaw08_EntriesKeep.j0 k true a0_0 a0_1 l0_2 a0_3 t611 t612 t613 t616) else (rialtolaw08_EntriesKeep.j0 k (!(t611 == a0_0) || (!(t612 == a0_1))) a0_0 a0_1 l0_2 a0_3 t611 t612 t613 t616)) else (rialtolaw08_EntriesKeep.j0 k true a0_0 a0_1 l0_2 a0_3 t611 t612 t613 t616))) else ((rialtolaw08_live.f k).bind fun t621 => (some t621))) = some r := H
    have A5 := Aside0.mk A50
    clear A50
    by_cases c6 : t619 = 0
    · rw [if_pos c6] at H
      have c6b0 : (t619 == 0) = true := beq_iff_eq.mpr c6
      have c6b1 : (t619 != 0) = false := bne_eq_false_iff_eq.mpr c6
      clear c6
      have HC7 := Aside0.mk H
      clear H
      go_enter Try.func10, Try.ntmps10
      go_upto_region 6 with (first | ((with_reducible refine gate_dst (N := 2) rfl ?_); refine box_event ?hg (N := 2) ?hd (cs := #[.int .i64 a0_0, .int .i64 a0_1, .slice A0_2 l0_2.length c0_2, .int .i64 a0_3]) (t := 26) ?hr ?_; (case hd => rfl); (case hg => rfl); (case hr => first | (go_simp; done) | (go_simp; rfl)); intro gb607 hg w8 hbox hb; have n0_ := Aside0.mk (below_step (by repeat (first | (with_reducible first | exact HB.out | apply below_alloc | apply pw_below_drewN | apply below_drew1) | exact HB.out)) hb); have n1_ := Aside0.mk (hbox); have n2_ := Aside0.mk ((by rw [hg]; exact (below_size (by repeat (first | (with_reducible first | exact HB.out | apply below_alloc | apply pw_below_drewN | apply below_drew1) | exact HB.out))) : w.heap.size ≤ gb607)); have n3_ := Aside0.mk ((by rw [hg]; exact (below_size (by repeat (first | (with_reducible first | exact HB.out | apply below_alloc | apply pw_below_drewN | apply below_drew1) | exact HB.out))) : w.heap.size ≤ gb607)); clear HB; have HB := n0_; have BK607 := n1_; have GW607 := n2_; have GE607 := n3_; clear n0_ n1_ n2_ n3_; clear hb hbox hg) | ((with_reducible refine gate_dst (N := 3) rfl ?_); refine box_event ?hg (N := 3) ?hd (cs := #[.int .i64 a1_0, .int .i64 a1_1, .slice A1_2 l1_2.length c1_2, .int .i64 a1_3]) (t := 41) ?hr ?_; (case hd => rfl); (case hg => rfl); (case hr => first | (go_simp; done) | (go_simp; rfl)); intro gb608 hg w9 hbox hb; have n0_ := Aside0.mk (blk_below (g := gb607) (o := .cells #[.int .i64 a0_0, .int .i64 a0_1, .slice A0_2 l0_2.length c0_2, .int .i64 a0_3] 26 (0, 0)) (by (with_reducible repeat (first | refine blk_drewN ?_ _ | refine blk_drew ?_ | refine blk_alloc ?_ _)); exact BK607.out) hb); have n1_ := Aside0.mk (below_step (by repeat (first | (with_reducible first | exact HB.out | apply below_alloc | apply pw_below_drewN | apply below_drew1 | refine below_set ?_ GE607.out) | exact HB.out)) hb); have n2_ := Aside0.mk (hbox); have n3_ := Aside0.mk ((by rw [hg]; exact (below_size (by repeat (first | (with_reducible first | exact HB.out | apply below_alloc | apply pw_below_drewN | apply below_drew1 | refine below_set ?_ GE607.out) | exact HB.out))) : w.heap.size ≤ gb608)); have n4_ := Aside0.mk ((by rw [hg]; exact (below_size (by repeat (first | (with_reducible first | exact HB.out | apply below_alloc | apply pw_below_drewN | apply below_drew1 | refine below_set ?_ GE607.out) | exact HB.out))) : w.heap.size ≤ gb608)); have n5_ := Aside0.mk ((by rw [hg]; exact Nat.ne_of_lt (blk_lt (g := gb607) (o := .cells #[.int .i64 a0_0, .int .i64 a0_1, .slice A0_2 l0_2.length c0_2, .int .i64 a0_3] 26 (0, 0)) (by (with_reducible repeat (first | refine blk_drewN ?_ _ | refine blk_drew ?_ | refine blk_alloc ?_ _)); exact BK607.out)) : gb607 ≠ gb608)); have n6_ := Aside0.mk ((by rw [hg]; exact Nat.ne_of_gt (blk_lt (g := gb607) (o := .cells #[.int .i64 a0_0, .int .i64 a0_1, .slice A0_2 l0_2.length c0_2, .int .i64 a0_3] 26 (0, 0)) (by (with_reducible repeat (first | refine blk_drewN ?_ _ | refine blk_drew ?_ | refine blk_alloc ?_ _)); exact BK607.out)) : gb608 ≠ gb607)); clear BK607; clear HB; have BK607 := n0_; have HB := n1_; have BK608 := n2_; have GW608 := n3_; have GE608 := n4_; have NB607_608 := n5_; have NB608_607 := n6_; clear n0_ n1_ n2_ n3_ n4_ n5_ n6_; clear hb hbox hg; have hnb10 := NB607_608.out; have hnc10 := NB608_607.out; have hcz11_0 : w9.cell? ⟨gb607, 0, none⟩ = some (.int .i64 a0_0) := (blk_cell BK607.out 0).trans rfl; have hcz11_1 : w9.cell? ⟨gb607, 1, none⟩ = some (.int .i64 a0_1) := (blk_cell BK607.out 1).trans rfl; have hcz11_2 : w9.cell? ⟨gb607, 2, none⟩ = some (.slice A0_2 l0_2.length c0_2) := (blk_cell BK607.out 2).trans rfl; have hcz11_3 : w9.cell? ⟨gb607, 3, none⟩ = some (.int .i64 a0_3) := (blk_cell BK607.out 3).trans rfl; have hfz11_0 := blk_frozen BK607.out 0; have hfz11_1 := blk_frozen BK607.out 1; have hfz11_2 := blk_frozen BK607.out 2; have hfz11_3 := blk_frozen BK607.out 3) | ((with_reducible refine gate_callee (f := 30) rfl ?_); refine goesL_ (some 11) rfl rfl Try.func30 (by kernel_rfl) rfl #[.agg #[.int .i64 a0_0, .int .i64 a0_1, .slice A0_2 l0_2.length c0_2, .int .i64 a0_3]] rfl (by (try simp only [List.map_toArray, List.map_cons, List.map_nil]); first | done | rfl | (simp only [List.length_drop, List.length_take]; rfl)) ?_; (with_reducible refine (entries_Check.calls k a0_0 a0_1 _ _ l0_2 a0_3 t609 _ ?side1 ?side2 A3.out).mono ?_); (case side1 => repeat (first | exact (Kd.C_below HR0_2.out HB.out) | (with_reducible refine Kd.C_alloc ?_ _) | (with_reducible refine Kd.C_drewN ?_ _) | (with_reducible refine Kd.C_drew ?_))); (case side2 => exact HC0_2.out); rintro e w12 ⟨rfl, hb⟩; refine ⟨_, rfl, ?_⟩; have n0_ := Aside0.mk (blk_below (g := gb607) (o := .cells #[.int .i64 a0_0, .int .i64 a0_1, .slice A0_2 l0_2.length c0_2, .int .i64 a0_3] 26 (0, 0)) (by (with_reducible repeat (first | refine blk_drewN ?_ _ | refine blk_drew ?_ | refine blk_alloc ?_ _)); exact BK607.out) hb); have n1_ := Aside0.mk (blk_below (g := gb608) (o := .cells #[.int .i64 a1_0, .int .i64 a1_1, .slice A1_2 l1_2.length c1_2, .int .i64 a1_3] 41 (0, 0)) (by (with_reducible repeat (first | refine blk_drewN ?_ _ | refine blk_drew ?_ | refine blk_alloc ?_ _)); exact BK608.out) hb); have n2_ := Aside0.mk (below_step (by repeat (first | (with_reducible first | exact HB.out | apply below_alloc | apply pw_below_drewN | apply below_drew1 | refine below_set ?_ GE607.out | refine below_set ?_ GE608.out) | exact HB.out)) hb); clear BK607; clear BK608; clear HB; have BK607 := n0_; have BK608 := n1_; have HB := n2_; clear n0_ n1_ n2_; (try clear hb); (try clear hb2); (try clear hk); (try clear hi); have hcz13_0 : w12.cell? ⟨gb607, 0, none⟩ = some (.int .i64 a0_0) := (blk_cell BK607.out 0).trans rfl; have hcz13_1 : w12.cell? ⟨gb607, 1, none⟩ = some (.int .i64 a0_1) := (blk_cell BK607.out 1).trans rfl; have hcz13_2 : w12.cell? ⟨gb607, 2, none⟩ = some (.slice A0_2 l0_2.length c0_2) := (blk_cell BK607.out 2).trans rfl; have hcz13_3 : w12.cell? ⟨gb607, 3, none⟩ = some (.int .i64 a0_3) := (blk_cell BK607.out 3).trans rfl; have hfz13_0 := blk_frozen BK607.out 0; have hfz13_1 := blk_frozen BK607.out 1; have hfz13_2 := blk_frozen BK607.out 2; have hfz13_3 := blk_frozen BK607.out 3; have hcz14_0 : w12.cell? ⟨gb608, 0, none⟩ = some (.int .i64 a1_0) := (blk_cell BK608.out 0).trans rfl; have hcz14_1 : w12.cell? ⟨gb608, 1, none⟩ = some (.int .i64 a1_1) := (blk_cell BK608.out 1).trans rfl; have hcz14_2 : w12.cell? ⟨gb608, 2, none⟩ = some (.slice A1_2 l1_2.length c1_2) := (blk_cell BK608.out 2).trans rfl; have hcz14_3 : w12.cell? ⟨gb608, 3, none⟩ = some (.int .i64 a1_3) := (blk_cell BK608.out 3).trans rfl; have hfz14_0 := blk_frozen BK608.out 0; have hfz14_1 := blk_frozen BK608.out 1; have hfz14_2 := blk_frozen BK608.out 2; have hfz14_3 := blk_frozen BK608.out 3) | ((with_reducible refine gate_callee (f := 20) rfl ?_); refine goesL_ (some 22) rfl rfl Try.func20 (by kernel_rfl) rfl #[.agg #[.int .i64 a0_0, .int .i64 a0_1, .slice A0_2 l0_2.length c0_2, .int .i64 a0_3], .agg #[.int .i64 a1_0, .int .i64 a1_1], .slice A1_2 l1_2.length c1_2, .int .i64 a1_3] rfl (by (try simp only [List.map_toArray, List.map_cons, List.map_nil]); first | done | rfl | (simp only [List.length_drop, List.length_take]; rfl)) ?_; (with_reducible refine (entries_Accept.calls k a0_0 a0_1 _ _ l0_2 a0_3 a1_0 a1_1 _ _ l1_2 a1_3 t611 t612 t613 t616 t617 t618 t619 _ ?side1 ?side2 ?side3 ?side4 A5.out).mono ?_); (case side1 => repeat (first | exact (Kd.C_below HR0_2.out HB.out) | (with_reducible refine Kd.C_alloc ?_ _) | (with_reducible refine Kd.C_drewN ?_ _) | (with_reducible refine Kd.C_drew ?_))); (case side2 => exact HC0_2.out); (case side3 => repeat (first | exact (Kd.C_below HR1_2.out HB.out) | (with_reducible refine Kd.C_alloc ?_ _) | (with_reducible refine Kd.C_drewN ?_ _) | (with_reducible refine Kd.C_drew ?_))); (case side4 => exact HC1_2.out); rintro e w15 ⟨v614, rfl, ho0, hb⟩; refine ⟨_, rfl, ?_⟩; have n0_ := Aside0.mk (Kd.R_lower ho0 (below_size (by repeat (first | (with_reducible first | exact HB.out | apply below_alloc | apply pw_below_drewN | apply below_drew1 | refine below_set ?_ GE607.out | refine below_set ?_ GE608.out) | exact HB.out)))); have n1_ := Aside0.mk (blk_below (g := gb607) (o := .cells #[.int .i64 a0_0, .int .i64 a0_1, .slice A0_2 l0_2.length c0_2, .int .i64 a0_3] 26 (0, 0)) (by (with_reducible repeat (first | refine blk_drewN ?_ _ | refine blk_drew ?_ | refine blk_alloc ?_ _)); exact BK607.out) hb); have n2_ := Aside0.mk (blk_below (g := gb608) (o := .cells #[.int .i64 a1_0, .int .i64 a1_1, .slice A1_2 l1_2.length c1_2, .int .i64 a1_3] 41 (0, 0)) (by (with_reducible repeat (first | refine blk_drewN ?_ _ | refine blk_drew ?_ | refine blk_alloc ?_ _)); exact BK608.out) hb); have n3_ := Aside0.mk (below_step (by repeat (first | (with_reducible first | exact HB.out | apply below_alloc | apply pw_below_drewN | apply below_drew1 | refine below_set ?_ GE607.out | refine below_set ?_ GE608.out) | exact HB.out)) hb); clear BK607; clear BK608; clear HB; have HO615 := n0_; have BK607 := n1_; have BK608 := n2_; have HB := n3_; clear n0_ n1_ n2_ n3_; (try clear hb); (try clear hb2); (try clear hk); (try clear hi); (try clear ho0)) | ((with_reducible refine gate_dst (N := 5) rfl ?_); refine box_event ?hg (N := 5) ?hd (cs := #[.int .i64 0, .int .i64 0, .slice none 0 0, .int .i64 0]) (t := 26) ?hr ?_; (case hd => rfl); (case hg => rfl); (case hr => first | (go_simp; done) | (go_simp; rfl)); intro gb620 hg w16 hbox hb; have n0_ := Aside0.mk (Kd.R_below (by (with_reducible repeat (first | apply Kd.R_alloc | apply Kd.R_drewN | apply Kd.R_drew)); exact HO615.out) hb); have n1_ := Aside0.mk (blk_below (g := gb607) (o := .cells #[.int .i64 a0_0, .int .i64 a0_1, .slice A0_2 l0_2.length c0_2, .int .i64 a0_3] 26 (0, 0)) (by (with_reducible repeat (first | refine blk_drewN ?_ _ | refine blk_drew ?_ | refine blk_alloc ?_ _)); exact BK607.out) hb); have n2_ := Aside0.mk (blk_below (g := gb608) (o := .cells #[.int .i64 a1_0, .int .i64 a1_1, .slice A1_2 l1_2.length c1_2, .int .i64 a1_3] 41 (0, 0)) (by (with_reducible repeat (first | refine blk_drewN ?_ _ | refine blk_drew ?_ | refine blk_alloc ?_ _)); exact BK608.out) hb); have n3_ := Aside0.mk (below_step (by repeat (first | (with_reducible first | exact HB.out | apply below_alloc | apply pw_below_drewN | apply below_drew1 | refine below_set ?_ GE607.out | refine below_set ?_ GE608.out) | exact HB.out)) hb); have n4_ := Aside0.mk (hbox); have n5_ := Aside0.mk ((by rw [hg]; exact (below_size (by repeat (first | (with_reducible first | exact HB.out | apply below_alloc | apply pw_below_drewN | apply below_drew1 | refine below_set ?_ GE607.out | refine below_set ?_ GE608.out) | exact HB.out))) : w.heap.size ≤ gb620)); have n6_ := Aside0.mk ((by rw [hg]; exact (below_size (by repeat (first | (with_reducible first | exact HB.out | apply below_alloc | apply pw_below_drewN | apply below_drew1 | refine below_set ?_ GE607.out | refine below_set ?_ GE608.out) | exact HB.out))) : w.heap.size ≤ gb620)); have n7_ := Aside0.mk ((by rw [hg]; exact Nat.ne_of_lt (blk_lt (g := gb607) (o := .cells #[.int .i64 a0_0, .int .i64 a0_1, .slice A0_2 l0_2.length c0_2, .int .i64 a0_3] 26 (0, 0)) (by (with_reducible repeat (first | refine blk_drewN ?_ _ | refine blk_drew ?_ | refine blk_alloc ?_ _)); exact BK607.out)) : gb607 ≠ gb620)); have n8_ := Aside0.mk ((by rw [hg]; exact Nat.ne_of_gt (blk_lt (g := gb607) (o := .cells #[.int .i64 a0_0, .int .i64 a0_1, .slice A0_2 l0_2.length c0_2, .int .i64 a0_3] 26 (0, 0)) (by (with_reducible repeat (first | refine blk_drewN ?_ _ | refine blk_drew ?_ | refine blk_alloc ?_ _)); exact BK607.out)) : gb620 ≠ gb607)); have n9_ := Aside0.mk ((by rw [hg]; exact Nat.ne_of_lt (blk_lt (g := gb608) (o := .cells #[.int .i64 a1_0, .int .i64 a1_1, .slice A1_2 l1_2.length c1_2, .int .i64 a1_3] 41 (0, 0)) (by (with_reducible repeat (first | refine blk_drewN ?_ _ | refine blk_drew ?_ | refine blk_alloc ?_ _)); exact BK608.out)) : gb608 ≠ gb620)); have n10_ := Aside0.mk ((by rw [hg]; exact Nat.ne_of_gt (blk_lt (g := gb608) (o := .cells #[.int .i64 a1_0, .int .i64 a1_1, .slice A1_2 l1_2.length c1_2, .int .i64 a1_3] 41 (0, 0)) (by (with_reducible repeat (first | refine blk_drewN ?_ _ | refine blk_drew ?_ | refine blk_alloc ?_ _)); exact BK608.out)) : gb620 ≠ gb608)); clear HO615; clear BK607; clear BK608; clear HB; have HO615 := n0_; have BK607 := n1_; have BK608 := n2_; have HB := n3_; have BK620 := n4_; have GW620 := n5_; have GE620 := n6_; have NB607_620 := n7_; have NB620_607 := n8_; have NB608_620 := n9_; have NB620_608 := n10_; clear n0_ n1_ n2_ n3_ n4_ n5_ n6_ n7_ n8_ n9_ n10_; clear hb hbox hg; have hnb17 := NB620_607.out; have hnc17 := NB607_620.out; have hnb18 := NB620_608.out; have hnc18 := NB608_620.out; have hcz19_0 : w16.cell? ⟨gb620, 0, none⟩ = some (.int .i64 0) := (blk_cell BK620.out 0).trans rfl; have hcz19_1 : w16.cell? ⟨gb620, 1, none⟩ = some (.int .i64 0) := (blk_cell BK620.out 1).trans rfl; have hcz19_2 : w16.cell? ⟨gb620, 2, none⟩ = some (.slice none 0 0) := (blk_cell BK620.out 2).trans rfl; have hcz19_3 : w16.cell? ⟨gb620, 3, none⟩ = some (.int .i64 0) := (blk_cell BK620.out 3).trans rfl; have hfz19_0 := blk_frozen BK620.out 0; have hfz19_1 := blk_frozen BK620.out 1; have hfz19_2 := blk_frozen BK620.out 2; have hfz19_3 := blk_frozen BK620.out 3; obtain ⟨Ao20, co20, eo20⟩ := Kd.R_slice HO615.out; subst eo20))
      (try simp only [Act.put, List.setIfInBounds_toArray, List.set_cons_zero, List.set_cons_succ])
      go_cut [46] (fun v46 wc => ∃ (kq : Nat) (x46_6 : Bool), v46 = .bool x46_6 ∧ Aside0 (rialtolaw08_EntriesKeep.j0 kq x46_6 a0_0 a0_1 l0_2 a0_3 t611 t612 t613 t616 = some r) ∧ Aside0 (kq ≤ k) ∧ Aside0 (Kd.R k33 33 wc w.heap.size (fun _ => True) (.slice Ao20 t613.length co20) t613) ∧ Aside0 (wc.heap[gb607]? = some (.cells #[.int .i64 a0_0, .int .i64 a0_1, (.slice A0_2 l0_2.length c0_2), .int .i64 a0_3] 26 (0, 0))) ∧ Aside0 (wc.heap[gb608]? = some (.cells #[.int .i64 a1_0, .int .i64 a1_1, (.slice A1_2 l1_2.length c1_2), .int .i64 a1_3] 41 (0, 0))) ∧ Aside0 (wc.heap[gb620]? = some (.cells #[.int .i64 t611, .int .i64 t612, (.slice Ao20 t613.length co20), .int .i64 t616] 26 (0, 0))) ∧ Aside0 (Below w.heap.size w wc))
      case first =>
        have H := HC7.out
        clear HC7
        replace H := Option.bind_eq_some_iff.mp H
        obtain ⟨t622, A210, H⟩ := H
        replace H : (if t622 = 0 then (if t616 < a0_3 then (rialtolaw08_EntriesKeep.j0 k true a0_0 a0_1 l0_2 a0_3 t611 t612 t613 t616) else (rialtolaw08_EntriesKeep.j0 k (!(t611 == a0_0) || (!(t612 == a0_1))) a0_0 a0_1 l0_2 a0_3 t611 t612 t613 t616)) else (rialtolaw08_EntriesKeep.j0 k true a0_0 a0_1 l0_2 a0_3 t611 t612 t613 t616)) = some r := H
        have A21 := Aside0.mk A210
        clear A210
        by_cases c22 : t622 = 0
        focus
          rw [if_pos c22] at H
          have c22b0 : (t622 == 0) = true := beq_iff_eq.mpr c22
          have c22b1 : (t622 != 0) = false := bne_eq_false_iff_eq.mpr c22
          clear c22
          (first | rw [c22b0] | (simp only [i64_w, i32_w]; rw [c22b0]) | skip)
          by_cases c23 : t616 < a0_3
          focus
            rw [if_pos c23] at H
            have c23b0 : decide (t616 < a0_3) = true := decide_eq_true c23
            clear c23
            have H' := Aside0.mk H
            clear H
          rotate_left 1
          focus
            rw [if_neg c23] at H
            have c23b0 : decide (t616 < a0_3) = false := decide_eq_false c23
            clear c23
            have H' := Aside0.mk H
            clear H
          rotate_left 1
        rotate_left 2
        focus
          rw [if_neg c22] at H
          have c22b0 : (t622 == 0) = false := beq_eq_false_iff_ne.mpr c22
          have c22b1 : (t622 != 0) = true := bne_iff_ne.mpr c22
          (first | rw [c22b0] | (simp only [i64_w, i32_w]; rw [c22b0]) | skip)
          have H' := Aside0.mk H
          clear H
        rotate_left 1
        all_goals
          have hnbyb620_607 := NB620_607.out
          have hncyb607_620 := NB607_620.out
          have hnbyb620_608 := NB620_608.out
          have hncyb608_620 := NB608_620.out
          have hczyb620_0 : w16.cell? ⟨gb620, 0, none⟩ = some (.int .i64 0) := (blk_cell BK620.out 0).trans rfl
          have hczyb620_1 : w16.cell? ⟨gb620, 1, none⟩ = some (.int .i64 0) := (blk_cell BK620.out 1).trans rfl
          have hczyb620_2 : w16.cell? ⟨gb620, 2, none⟩ = some (.slice none 0 0) := (blk_cell BK620.out 2).trans rfl
          have hczyb620_3 : w16.cell? ⟨gb620, 3, none⟩ = some (.int .i64 0) := (blk_cell BK620.out 3).trans rfl
          have hfzyb620_0 := blk_frozen BK620.out 0
          have hfzyb620_1 := blk_frozen BK620.out 1
          have hfzyb620_2 := blk_frozen BK620.out 2
          have hfzyb620_3 := blk_frozen BK620.out 3
          go_wp2_with (first | ((with_reducible refine gate_callee (f := 30) rfl ?_); refine goesL_ (some 31) rfl rfl Try.func30 (by kernel_rfl) rfl #[.agg #[.int .i64 t611, .int .i64 t612, .slice Ao20 t613.length co20, .int .i64 t616]] rfl (by (try simp only [List.map_toArray, List.map_cons, List.map_nil]); first | done | rfl | (simp only [List.length_drop, List.length_take]; rfl)) ?_; (with_reducible refine (entries_Check.calls k t611 t612 _ _ t613 t616 t622 _ ?side1 ?side2 A21.out).mono ?_); (case side1 => refine (Kd.R_reads' (e := 33) (base := w.heap.size) (ok := fun k_ => True) (n := t613.length) (c := co20) ?_).2.2; exact (by (with_reducible repeat (first | apply Kd.R_alloc | apply Kd.R_drewN | apply Kd.R_drew)); exact (Kd.R_mono (Kd.R_far (p := ⟨gb620, 3, none⟩) (Kd.R_far (p := ⟨gb620, 2, none⟩) (Kd.R_far (p := ⟨gb620, 1, none⟩) (Kd.R_far (p := ⟨gb620, 0, none⟩) (Kd.R_types HO615.out BK620.out (by decide)) (fun _ hk => hk.2) (.int .i64 t611)) (fun _ hk => hk.2) (.int .i64 t612)) (fun _ hk => hk.2) (.slice Ao20 t613.length co20)) (fun _ hk => hk.2) (.int .i64 t616)) (fun _ h_ => h_.1)))); (case side2 => exact (Kd.R_reads' HO615.out).2.1); rintro e wx31i0 ⟨rfl, hb⟩; refine ⟨_, rfl, ?_⟩; have n0_ := Aside0.mk (Kd.R_below (by (with_reducible repeat (first | apply Kd.R_alloc | apply Kd.R_drewN | apply Kd.R_drew)); exact (Kd.R_mono (Kd.R_far (p := ⟨gb620, 3, none⟩) (Kd.R_far (p := ⟨gb620, 2, none⟩) (Kd.R_far (p := ⟨gb620, 1, none⟩) (Kd.R_far (p := ⟨gb620, 0, none⟩) (Kd.R_types HO615.out BK620.out (by decide)) (fun _ hk => hk.2) (.int .i64 t611)) (fun _ hk => hk.2) (.int .i64 t612)) (fun _ hk => hk.2) (.slice Ao20 t613.length co20)) (fun _ hk => hk.2) (.int .i64 t616)) (fun _ h_ => h_.1))) hb); have n1_ := Aside0.mk (blk_below (g := gb607) (o := .cells #[.int .i64 a0_0, .int .i64 a0_1, .slice A0_2 l0_2.length c0_2, .int .i64 a0_3] 26 (0, 0)) (by (with_reducible repeat (first | refine blk_drewN ?_ _ | refine blk_drew ?_ | refine blk_alloc ?_ _)); refine blk_far ?_ NB607_620.out _; (with_reducible repeat (first | refine blk_drewN ?_ _ | refine blk_drew ?_ | refine blk_alloc ?_ _)); refine blk_far ?_ NB607_620.out _; (with_reducible repeat (first | refine blk_drewN ?_ _ | refine blk_drew ?_ | refine blk_alloc ?_ _)); refine blk_far ?_ NB607_620.out _; (with_reducible repeat (first | refine blk_drewN ?_ _ | refine blk_drew ?_ | refine blk_alloc ?_ _)); refine blk_far ?_ NB607_620.out _; (with_reducible repeat (first | refine blk_drewN ?_ _ | refine blk_drew ?_ | refine blk_alloc ?_ _)); exact BK607.out) hb); have n2_ := Aside0.mk (blk_below (g := gb608) (o := .cells #[.int .i64 a1_0, .int .i64 a1_1, .slice A1_2 l1_2.length c1_2, .int .i64 a1_3] 41 (0, 0)) (by (with_reducible repeat (first | refine blk_drewN ?_ _ | refine blk_drew ?_ | refine blk_alloc ?_ _)); refine blk_far ?_ NB608_620.out _; (with_reducible repeat (first | refine blk_drewN ?_ _ | refine blk_drew ?_ | refine blk_alloc ?_ _)); refine blk_far ?_ NB608_620.out _; (with_reducible repeat (first | refine blk_drewN ?_ _ | refine blk_drew ?_ | refine blk_alloc ?_ _)); refine blk_far ?_ NB608_620.out _; (with_reducible repeat (first | refine blk_drewN ?_ _ | refine blk_drew ?_ | refine blk_alloc ?_ _)); refine blk_far ?_ NB608_620.out _; (with_reducible repeat (first | refine blk_drewN ?_ _ | refine blk_drew ?_ | refine blk_alloc ?_ _)); exact BK608.out) hb); have n3_ := Aside0.mk (blk_below (g := gb620) (o := .cells #[.int .i64 t611, .int .i64 t612, .slice Ao20 t613.length co20, .int .i64 t616] 26 (0, 0)) (by (with_reducible repeat (first | refine blk_drewN ?_ _ | refine blk_drew ?_ | refine blk_alloc ?_ _)); refine blk_put (cs := #[.int .i64 t611, .int .i64 t612, .slice Ao20 t613.length co20, .int .i64 0]) ?_ 3 _ rfl; (with_reducible repeat (first | refine blk_drewN ?_ _ | refine blk_drew ?_ | refine blk_alloc ?_ _)); refine blk_put (cs := #[.int .i64 t611, .int .i64 t612, .slice none 0 0, .int .i64 0]) ?_ 2 _ rfl; (with_reducible repeat (first | refine blk_drewN ?_ _ | refine blk_drew ?_ | refine blk_alloc ?_ _)); refine blk_put (cs := #[.int .i64 t611, .int .i64 0, .slice none 0 0, .int .i64 0]) ?_ 1 _ rfl; (with_reducible repeat (first | refine blk_drewN ?_ _ | refine blk_drew ?_ | refine blk_alloc ?_ _)); refine blk_put (cs := #[.int .i64 0, .int .i64 0, .slice none 0 0, .int .i64 0]) ?_ 0 _ rfl; (with_reducible repeat (first | refine blk_drewN ?_ _ | refine blk_drew ?_ | refine blk_alloc ?_ _)); exact BK620.out) hb); have n4_ := Aside0.mk (below_step (by repeat (first | (with_reducible first | exact HB.out | apply below_alloc | apply pw_below_drewN | apply below_drew1 | refine below_set ?_ GE607.out | refine below_set ?_ GE608.out | refine below_set ?_ GE620.out) | exact HB.out)) hb); clear HO615; clear BK607; clear BK608; clear BK620; clear HB; have HO615 := n0_; have BK607 := n1_; have BK608 := n2_; have BK620 := n3_; have HB := n4_; clear n0_ n1_ n2_ n3_ n4_; (try clear hb); (try clear hb2); (try clear hk); (try clear hi); (try have hczx31b620_0 : wx31i0.cell? ⟨gb620, 0, none⟩ = some (.int .i64 t611) := (blk_cell BK620.out 0).trans rfl); (try have hczx31b620_1 : wx31i0.cell? ⟨gb620, 1, none⟩ = some (.int .i64 t612) := (blk_cell BK620.out 1).trans rfl); (try have hczx31b620_2 : wx31i0.cell? ⟨gb620, 2, none⟩ = some (.slice Ao20 t613.length co20) := (blk_cell BK620.out 2).trans rfl); (try have hczx31b620_3 : wx31i0.cell? ⟨gb620, 3, none⟩ = some (.int .i64 t616) := (blk_cell BK620.out 3).trans rfl); (try have hfzx31b620_0 := blk_frozen BK620.out 0); (try have hfzx31b620_1 := blk_frozen BK620.out 1); (try have hfzx31b620_2 := blk_frozen BK620.out 2); (try have hfzx31b620_3 := blk_frozen BK620.out 3); (try have hnbx31b607_608 := NB607_608.out); (try have hncx31b608_607 := NB608_607.out); (try have hczx31b607_0 : wx31i0.cell? ⟨gb607, 0, none⟩ = some (.int .i64 a0_0) := (blk_cell BK607.out 0).trans rfl); (try have hczx31b607_1 : wx31i0.cell? ⟨gb607, 1, none⟩ = some (.int .i64 a0_1) := (blk_cell BK607.out 1).trans rfl); (try have hczx31b607_2 : wx31i0.cell? ⟨gb607, 2, none⟩ = some (.slice A0_2 l0_2.length c0_2) := (blk_cell BK607.out 2).trans rfl); (try have hczx31b607_3 : wx31i0.cell? ⟨gb607, 3, none⟩ = some (.int .i64 a0_3) := (blk_cell BK607.out 3).trans rfl); (try have hfzx31b607_0 := blk_frozen BK607.out 0); (try have hfzx31b607_1 := blk_frozen BK607.out 1); (try have hfzx31b607_2 := blk_frozen BK607.out 2); (try have hfzx31b607_3 := blk_frozen BK607.out 3)))
          go_meet
          case rel => (first | exact ⟨_, (true), (by first | rfl | (simp; done) | (simp [*]; done)), H', ⟨by first | omega | exact Nat.le_refl _⟩, ⟨by (with_reducible repeat (first | apply Kd.R_alloc | apply Kd.R_drewN | apply Kd.R_drew)); exact HO615.out⟩, ⟨by (with_reducible repeat (first | refine blk_drewN ?_ _ | refine blk_drew ?_ | refine blk_alloc ?_ _)); exact BK607.out⟩, ⟨by (with_reducible repeat (first | refine blk_drewN ?_ _ | refine blk_drew ?_ | refine blk_alloc ?_ _)); exact BK608.out⟩, ⟨by (with_reducible repeat (first | refine blk_drewN ?_ _ | refine blk_drew ?_ | refine blk_alloc ?_ _)); exact BK620.out⟩, ⟨by repeat (first | (with_reducible first | exact HB.out | apply below_alloc | apply pw_below_drewN | apply below_drew1 | refine below_set ?_ GE607.out | refine below_set ?_ GE608.out | refine below_set ?_ GE620.out) | exact HB.out)⟩⟩ | exact ⟨_, ((!(t611 == a0_0) || (!(t612 == a0_1)))), (by first | rfl | (simp; done) | (simp [*]; done)), H', ⟨by first | omega | exact Nat.le_refl _⟩, ⟨by (with_reducible repeat (first | apply Kd.R_alloc | apply Kd.R_drewN | apply Kd.R_drew)); exact HO615.out⟩, ⟨by (with_reducible repeat (first | refine blk_drewN ?_ _ | refine blk_drew ?_ | refine blk_alloc ?_ _)); exact BK607.out⟩, ⟨by (with_reducible repeat (first | refine blk_drewN ?_ _ | refine blk_drew ?_ | refine blk_alloc ?_ _)); exact BK608.out⟩, ⟨by (with_reducible repeat (first | refine blk_drewN ?_ _ | refine blk_drew ?_ | refine blk_alloc ?_ _)); exact BK620.out⟩, ⟨by repeat (first | (with_reducible first | exact HB.out | apply below_alloc | apply pw_below_drewN | apply below_drew1 | refine below_set ?_ GE607.out | refine below_set ?_ GE608.out | refine below_set ?_ GE620.out) | exact HB.out)⟩⟩)
      case rest =>
        clear HC7
        try clear c4
        try clear c4b0
        try clear c4b1
        try clear c6
        try clear c6b0
        try clear c6b1
        try clear hcz11_0
        try clear hcz11_1
        try clear hcz11_2
        try clear hcz11_3
        try clear hcz13_0
        try clear hcz13_1
        try clear hcz13_2
        try clear hcz13_3
        try clear hcz14_0
        try clear hcz14_1
        try clear hcz14_2
        try clear hcz14_3
        try clear hcz19_0
        try clear hcz19_1
        try clear hcz19_2
        try clear hcz19_3
        try clear hfz11_0
        try clear hfz11_1
        try clear hfz11_2
        try clear hfz11_3
        try clear hfz13_0
        try clear hfz13_1
        try clear hfz13_2
        try clear hfz13_3
        try clear hfz14_0
        try clear hfz14_1
        try clear hfz14_2
        try clear hfz14_3
        try clear hfz19_0
        try clear hfz19_1
        try clear hfz19_2
        try clear hfz19_3
        obtain ⟨kq, x46_6, rfl, HA, HJ6, HO_621002, BK607, BK608, BK620, HB⟩ := hcut
        cases kq with
        | zero => exact absurd HA.out (by simp [rialtolaw08_EntriesKeep.j0])
        | succ kj6 =>
          have H := HA.out
          clear HA
          simp only [rialtolaw08_EntriesKeep.j0] at H
          by_cases c42 : x46_6 = true
          focus
            subst c42
            have H1 : (some false) = some r := by rw [if_pos rfl] at H; exact H
            clear H
            have H := H1
            clear H1
            obtain rfl := Option.some.inj H
          rotate_left 1
          focus
            replace c42 := Bool.eq_false_iff.mpr c42
            subst c42
            have H1 : ((entries_From.f kj6 t611 t612 t613 t616 (wrap64 (a0_0 + 1)) (wrap64 (a0_3 - a0_0))).bind fun t623 => ((entries_From.f kj6 a0_0 a0_1 l0_2 a0_3 (wrap64 (a0_0 + 1)) (wrap64 (a0_3 - a0_0))).bind fun t626 => ((rialtoref08_SameEntries.f kj6 t623 t626).bind fun t629 => (if t629 = true then ((rialtolaw08_live.f kj6).bind fun t630 => (some t630)) else (some false))))) = some r := by rw [if_neg (show ¬ (false = true) by decide)] at H; exact H
            clear H
            have H := H1
            clear H1
            replace H := Option.bind_eq_some_iff.mp H
            obtain ⟨t623, A430, H⟩ := H
            replace H : ((entries_From.f kj6 a0_0 a0_1 l0_2 a0_3 (wrap64 (a0_0 + 1)) (wrap64 (a0_3 - a0_0))).bind fun t626 => ((rialtoref08_SameEntries.f kj6 t623 t626).bind fun t629 => (if t629 = true then ((rialtolaw08_live.f kj6).bind fun t630 => (some t630)) else (some false)))) = some r := H
            have A43 := Aside0.mk A430
            clear A430
            replace H := Option.bind_eq_some_iff.mp H
            obtain ⟨t626, A440, H⟩ := H
            replace H : ((rialtoref08_SameEntries.f kj6 t623 t626).bind fun t629 => (if t629 = true then ((rialtolaw08_live.f kj6).bind fun t630 => (some t630)) else (some false))) = some r := H
            have A44 := Aside0.mk A440
            clear A440
            replace H := Option.bind_eq_some_iff.mp H
            obtain ⟨t629, A450, H⟩ := H
            replace H : (if t629 = true then ((rialtolaw08_live.f kj6).bind fun t630 => (some t630)) else (some false)) = some r := H
            have A45 := Aside0.mk A450
            clear A450
            by_cases c46 : t629 = true
            focus
              subst c46
              have H1 : ((rialtolaw08_live.f kj6).bind fun t630 => (some t630)) = some r := by rw [if_pos rfl] at H; exact H
              clear H
              have H := H1
              clear H1
              replace H := Option.bind_eq_some_iff.mp H
              obtain ⟨t630, A470, H⟩ := H
              replace H : (some t630) = some r := H
              have A47 := Aside0.mk A470
              clear A470
              obtain rfl := Option.some.inj H
            rotate_left 1
            focus
              replace c46 := Bool.eq_false_iff.mpr c46
              subst c46
              have H1 : (some false) = some r := by rw [if_neg (show ¬ (false = true) by decide)] at H; exact H
              clear H
              have H := H1
              clear H1
              obtain rfl := Option.some.inj H
            rotate_left 1
          rotate_left 2
          all_goals
            (try have hnbyb607_608 := NB607_608.out)
            (try have hncyb608_607 := NB608_607.out)
            (try have hnbyb607_620 := NB607_620.out)
            (try have hncyb620_607 := NB620_607.out)
            (try have hczyb607_0 : wc.cell? ⟨gb607, 0, none⟩ = some (.int .i64 a0_0) := (blk_cell BK607.out 0).trans rfl)
            (try have hczyb607_1 : wc.cell? ⟨gb607, 1, none⟩ = some (.int .i64 a0_1) := (blk_cell BK607.out 1).trans rfl)
            (try have hczyb607_2 : wc.cell? ⟨gb607, 2, none⟩ = some (.slice A0_2 l0_2.length c0_2) := (blk_cell BK607.out 2).trans rfl)
            (try have hczyb607_3 : wc.cell? ⟨gb607, 3, none⟩ = some (.int .i64 a0_3) := (blk_cell BK607.out 3).trans rfl)
            (try have hfzyb607_0 := blk_frozen BK607.out 0)
            (try have hfzyb607_1 := blk_frozen BK607.out 1)
            (try have hfzyb607_2 := blk_frozen BK607.out 2)
            (try have hfzyb607_3 := blk_frozen BK607.out 3)
          focus
            go_wp2
            go_ret
            exact ⟨by first | rfl | (simp [errW_none, errW_some] <;> rfl) | (simp [*, errW_none, errW_some] <;> rfl), by repeat (first | (with_reducible first | exact HB.out | apply below_alloc | apply pw_below_drewN | apply below_drew1 | refine below_set ?_ GE607.out | refine below_set ?_ GE608.out | refine below_set ?_ GE620.out) | exact HB.out)⟩
          iterate 2
            focus
              try go_wp2
              have n0_ := Aside0.mk (Kd.R_drew HO_621002.out)
              have n1_ := Aside0.mk (blk_drew BK607.out)
              have n2_ := Aside0.mk (blk_drew BK608.out)
              have n3_ := Aside0.mk (blk_drew BK620.out)
              have n4_ := Aside0.mk (below_drew1 HB.out)
              clear HO_621002
              clear BK607
              clear BK608
              clear BK620
              clear HB
              have HO_621002 := n0_
              have BK607 := n1_
              have BK608 := n2_
              have BK620 := n3_
              have HB := n4_
              clear n0_ n1_ n2_ n3_ n4_
              refine start_ (n := 19) (S := fun w' => w'.cell? ⟨gb620, 0, none⟩ = some (.int .i64 t611) ∧ w'.cell? ⟨gb620, 1, none⟩ = some (.int .i64 t612) ∧ w'.cell? ⟨gb620, 2, none⟩ = some (.slice Ao20 t613.length co20) ∧ w'.cell? ⟨gb620, 3, none⟩ = some (.int .i64 t616) ∧ w'.cell? ⟨gb607, 0, none⟩ = some (.int .i64 a0_0) ∧ w'.cell? ⟨gb607, 1, none⟩ = some (.int .i64 a0_1) ∧ w'.cell? ⟨gb607, 2, none⟩ = some (.slice A0_2 l0_2.length c0_2) ∧ w'.cell? ⟨gb607, 3, none⟩ = some (.int .i64 a0_3)) (ds := []) #[false, false, false, false, false, false, false, false, false, false, false, false, false, false, false, false, false, false, false] (by kernel_rfl) rfl rfl ⟨(blk_cell BK620.out 0).trans rfl, (blk_cell BK620.out 1).trans rfl, (blk_cell BK620.out 2).trans rfl, (blk_cell BK620.out 3).trans rfl, (blk_cell BK607.out 0).trans rfl, (blk_cell BK607.out 1).trans rfl, (blk_cell BK607.out 2).trans rfl, (blk_cell BK607.out 3).trans rfl⟩ (fun hHeld => ?_); refine with_tabW rialtolaw08_EntriesKeep.tab9 rialtolaw08_EntriesKeep.bits9 (fun HT_ HW_ => ?_)
              generalize wc.drew = wyi0 at HO_621002 BK607 BK608 BK620 HB hHeld ⊢
              refine stepP HT_ 1 (some 54) ?_
              refine stepP HT_ 2 (some 55) ?_
              refine stepP HT_ 5 (some 58) ?_
              refine stepP HT_ 8 (some 61) ?_
              refine stepP HT_ 9 (some 62) ?_
              refine stepP HT_ 12 (some 65) ?_
              refine stepT8 HT_ HW_ 0 (some 53) hHeld ?_
              refine stepT8 HT_ HW_ 3 (some 56) hHeld ?_
              refine stepP HT_ 4 (some 57) ?_
              refine stepT8 HT_ HW_ 7 (some 60) hHeld ?_
              refine stepT8 HT_ HW_ 10 (some 63) hHeld ?_
              refine stepP HT_ 11 (some 64) ?_
              refine one_ (i := 6) (N := some 59) #[true, true, true, true, true, true, true, true, true, true, true, true, true, false, false, false, false, false, false] rfl rfl (one_of HT_.out (by kernel_rfl)) (by decide) (fun K hK => ?_)
              refine goes_ Try.func29 (by kernel_rfl) rfl #[.agg #[.int .i64 t611, .int .i64 t612, .slice Ao20 t613.length co20, .int .i64 t616], .int .i64 (wrap64 (a0_0 + 1)), .int .i64 (wrap64 (a0_3 - a0_0))] (by rfl) rfl rfl (by (try simp only [List.map_toArray, List.map_cons, List.map_nil]); first | done | rfl | (simp only [List.length_drop, List.length_take]; rfl)) ?_
              with_reducible refine (entries_From.calls kj6 t611 t612 _ _ t613 t616 (wrap64 (a0_0 + 1)) (wrap64 (a0_3 - a0_0)) t623 _ ?side1 ?side2 A43.out).mono ?_
              (case side1 => repeat (first | exact (Kd.R_reads' HO_621002.out).2.2 | (with_reducible refine Kd.C_alloc ?_ _) | (with_reducible refine Kd.C_drewN ?_ _) | (with_reducible refine Kd.C_drew ?_)))
              (case side2 => exact (Kd.R_reads' HO_621002.out).2.1)
              rintro e wyi1 ⟨v624, rfl, ho0, hb⟩
              refine ⟨_, rfl, ?_⟩
              have n0_ := Aside0.mk (Kd.R_elder' (by (with_reducible repeat (first | apply Kd.R_alloc | apply Kd.R_drewN | apply Kd.R_drew)); exact HO_621002.out) (Kd.R_base ho0) hb)
              have n1_ := Aside0.mk (Kd.R_lower (Kd.R_new' ho0 (Kd.R_lt (by (with_reducible repeat (first | apply Kd.R_alloc | apply Kd.R_drewN | apply Kd.R_drew)); exact HO_621002.out))) (below_size (by repeat (first | (with_reducible first | exact HB.out | apply below_alloc | apply pw_below_drewN | apply below_drew1 | refine below_set ?_ GE607.out | refine below_set ?_ GE608.out | refine below_set ?_ GE620.out) | exact HB.out))))
              have n2_ := Aside0.mk (blk_below (g := gb607) (o := .cells #[.int .i64 a0_0, .int .i64 a0_1, .slice A0_2 l0_2.length c0_2, .int .i64 a0_3] 26 (0, 0)) (by (with_reducible repeat (first | refine blk_drewN ?_ _ | refine blk_drew ?_ | refine blk_alloc ?_ _)); exact BK607.out) hb)
              have n3_ := Aside0.mk (blk_below (g := gb608) (o := .cells #[.int .i64 a1_0, .int .i64 a1_1, .slice A1_2 l1_2.length c1_2, .int .i64 a1_3] 41 (0, 0)) (by (with_reducible repeat (first | refine blk_drewN ?_ _ | refine blk_drew ?_ | refine blk_alloc ?_ _)); exact BK608.out) hb)
              have n4_ := Aside0.mk (blk_below (g := gb620) (o := .cells #[.int .i64 t611, .int .i64 t612, .slice Ao20 t613.length co20, .int .i64 t616] 26 (0, 0)) (by (with_reducible repeat (first | refine blk_drewN ?_ _ | refine blk_drew ?_ | refine blk_alloc ?_ _)); exact BK620.out) hb)
              have n5_ := Aside0.mk (below_step (by repeat (first | (with_reducible first | exact HB.out | apply below_alloc | apply pw_below_drewN | apply below_drew1 | refine below_set ?_ GE607.out | refine below_set ?_ GE608.out | refine below_set ?_ GE620.out) | exact HB.out)) hb)
              clear HO_621002
              clear BK607
              clear BK608
              clear BK620
              clear HB
              have HO_621002 := n0_
              have HO625 := n1_
              have BK607 := n2_
              have BK608 := n3_
              have BK620 := n4_
              have HB := n5_
              clear n0_ n1_ n2_ n3_ n4_ n5_
              (try clear hb)
              (try clear hb2)
              (try clear hk)
              (try clear hi)
              (try clear ho0)
              refine hK.out _ _ ⟨(blk_cell BK620.out 0).trans rfl, (blk_cell BK620.out 1).trans rfl, (blk_cell BK620.out 2).trans rfl, (blk_cell BK620.out 3).trans rfl, (blk_cell BK607.out 0).trans rfl, (blk_cell BK607.out 1).trans rfl, (blk_cell BK607.out 2).trans rfl, (blk_cell BK607.out 3).trans rfl⟩ (fun hHeld => ?_)
              clear hK K
              refine norm_ (a' := ?_) ?_ ?_
              rotate_left
              · show Act.put _ (some 59) _ = _
                simp only [Act.put, List.setIfInBounds_toArray, List.set_cons_zero, List.set_cons_succ, i64_w, i32_w]
                rfl
              refine one_ (i := 13) (N := some 66) #[true, true, true, true, true, true, true, true, true, true, true, true, true, true, false, false, false, false, false] rfl rfl (one_of HT_.out (by kernel_rfl)) (by decide) (fun K hK => ?_)
              refine goes_ Try.func29 (by kernel_rfl) rfl #[.agg #[.int .i64 a0_0, .int .i64 a0_1, .slice A0_2 l0_2.length c0_2, .int .i64 a0_3], .int .i64 (wrap64 (a0_0 + 1)), .int .i64 (wrap64 (a0_3 - a0_0))] (by rfl) rfl rfl (by (try simp only [List.map_toArray, List.map_cons, List.map_nil]); first | done | rfl | (simp only [List.length_drop, List.length_take]; rfl)) ?_
              with_reducible refine (entries_From.calls kj6 a0_0 a0_1 _ _ l0_2 a0_3 (wrap64 (a0_0 + 1)) (wrap64 (a0_3 - a0_0)) t626 _ ?side1 ?side2 A44.out).mono ?_
              (case side1 => repeat (first | exact (Kd.C_below HR0_2.out HB.out) | (with_reducible refine Kd.C_alloc ?_ _) | (with_reducible refine Kd.C_drewN ?_ _) | (with_reducible refine Kd.C_drew ?_)))
              (case side2 => exact HC0_2.out)
              rintro e wyi2 ⟨v627, rfl, ho0, hb⟩
              refine ⟨_, rfl, ?_⟩
              have n0_ := Aside0.mk (Kd.R_elder' (by (with_reducible repeat (first | apply Kd.R_alloc | apply Kd.R_drewN | apply Kd.R_drew)); exact HO_621002.out) (Kd.R_base ho0) hb)
              have n1_ := Aside0.mk (Kd.R_elder' (by (with_reducible repeat (first | apply Kd.R_alloc | apply Kd.R_drewN | apply Kd.R_drew)); exact HO625.out) (Kd.R_base ho0) hb)
              have n2_ := Aside0.mk (Kd.R_lower (Kd.R_new' (Kd.R_new' ho0 (Kd.R_lt (by (with_reducible repeat (first | apply Kd.R_alloc | apply Kd.R_drewN | apply Kd.R_drew)); exact HO_621002.out))) (Kd.R_lt (by (with_reducible repeat (first | apply Kd.R_alloc | apply Kd.R_drewN | apply Kd.R_drew)); exact HO625.out))) (below_size (by repeat (first | (with_reducible first | exact HB.out | apply below_alloc | apply pw_below_drewN | apply below_drew1 | refine below_set ?_ GE607.out | refine below_set ?_ GE608.out | refine below_set ?_ GE620.out) | exact HB.out))))
              have n3_ := Aside0.mk (blk_below (g := gb607) (o := .cells #[.int .i64 a0_0, .int .i64 a0_1, .slice A0_2 l0_2.length c0_2, .int .i64 a0_3] 26 (0, 0)) (by (with_reducible repeat (first | refine blk_drewN ?_ _ | refine blk_drew ?_ | refine blk_alloc ?_ _)); exact BK607.out) hb)
              have n4_ := Aside0.mk (blk_below (g := gb608) (o := .cells #[.int .i64 a1_0, .int .i64 a1_1, .slice A1_2 l1_2.length c1_2, .int .i64 a1_3] 41 (0, 0)) (by (with_reducible repeat (first | refine blk_drewN ?_ _ | refine blk_drew ?_ | refine blk_alloc ?_ _)); exact BK608.out) hb)
              have n5_ := Aside0.mk (blk_below (g := gb620) (o := .cells #[.int .i64 t611, .int .i64 t612, .slice Ao20 t613.length co20, .int .i64 t616] 26 (0, 0)) (by (with_reducible repeat (first | refine blk_drewN ?_ _ | refine blk_drew ?_ | refine blk_alloc ?_ _)); exact BK620.out) hb)
              have n6_ := Aside0.mk (below_step (by repeat (first | (with_reducible first | exact HB.out | apply below_alloc | apply pw_below_drewN | apply below_drew1 | refine below_set ?_ GE607.out | refine below_set ?_ GE608.out | refine below_set ?_ GE620.out) | exact HB.out)) hb)
              clear HO_621002
              clear HO625
              clear BK607
              clear BK608
              clear BK620
              clear HB
              have HO_621002 := n0_
              have HO625 := n1_
              have HO628 := n2_
              have BK607 := n3_
              have BK608 := n4_
              have BK620 := n5_
              have HB := n6_
              clear n0_ n1_ n2_ n3_ n4_ n5_ n6_
              (try clear hb)
              (try clear hb2)
              (try clear hk)
              (try clear hi)
              (try clear ho0)
              obtain ⟨Aoyi0, coyi0, eoyi0⟩ := Kd.R_slice HO625.out
              (first | subst eoyi0 | (injection eoyi0 with f1_ f2_ f3_; have f4_ := f1_.symm; have f5_ := f3_.symm; clear f1_ f2_ f3_; subst f4_; subst f5_))
              obtain ⟨Aoyi1, coyi1, eoyi1⟩ := Kd.R_slice HO628.out
              (first | subst eoyi1 | (injection eoyi1 with f1_ f2_ f3_; have f4_ := f1_.symm; have f5_ := f3_.symm; clear f1_ f2_ f3_; subst f4_; subst f5_))
              refine hK.out _ _ ⟨(blk_cell BK620.out 0).trans rfl, (blk_cell BK620.out 1).trans rfl, (blk_cell BK620.out 2).trans rfl, (blk_cell BK620.out 3).trans rfl, (blk_cell BK607.out 0).trans rfl, (blk_cell BK607.out 1).trans rfl, (blk_cell BK607.out 2).trans rfl, (blk_cell BK607.out 3).trans rfl⟩ (fun hHeld => ?_)
              clear hK K
              refine norm_ (a' := ?_) ?_ ?_
              rotate_left
              · show Act.put _ (some 66) _ = _
                simp only [Act.put, List.setIfInBounds_toArray, List.set_cons_zero, List.set_cons_succ, i64_w, i32_w]
                rfl
              refine one_ (i := 14) (N := some 67) #[true, true, true, true, true, true, true, true, true, true, true, true, true, true, true, false, false, false, false] rfl rfl (one_of HT_.out (by kernel_rfl)) (by decide) (fun K hK => ?_)
              refine goes_ Try.func22 (by kernel_rfl) rfl #[.slice Aoyi0 t623.length coyi0, .slice Aoyi1 t626.length coyi1] (by rfl) rfl rfl (by (try simp only [List.map_toArray, List.map_cons, List.map_nil]); first | done | rfl | (simp only [List.length_drop, List.length_take]; rfl)) ?_
              with_reducible refine (rialtoref08_SameEntries.calls kj6 _ _ t623 _ _ t626 _ _ ?side1 ?side2 ?side3 ?side4 A45.out).mono ?_
              (case side1 => repeat (first | exact (Kd.R_reads' HO625.out).2.2 | (with_reducible refine Kd.C_alloc ?_ _) | (with_reducible refine Kd.C_drewN ?_ _) | (with_reducible refine Kd.C_drew ?_)))
              (case side2 => exact (Kd.R_reads' HO625.out).2.1)
              (case side3 => repeat (first | exact (Kd.R_reads' HO628.out).2.2 | (with_reducible refine Kd.C_alloc ?_ _) | (with_reducible refine Kd.C_drewN ?_ _) | (with_reducible refine Kd.C_drew ?_)))
              (case side4 => exact (Kd.R_reads' HO628.out).2.1)
              rintro e w' ⟨rfl, ⟨nd, rfl⟩⟩
              refine ⟨_, rfl, ?_⟩
              refine hK.out _ _ ⟨(blk_cell BK620.out 0).trans rfl, (blk_cell BK620.out 1).trans rfl, (blk_cell BK620.out 2).trans rfl, (blk_cell BK620.out 3).trans rfl, (blk_cell BK607.out 0).trans rfl, (blk_cell BK607.out 1).trans rfl, (blk_cell BK607.out 2).trans rfl, (blk_cell BK607.out 3).trans rfl⟩ (fun hHeld => ?_)
              clear hK K
              refine norm_ (a' := ?_) ?_ ?_
              rotate_left
              · show Act.put _ (some 67) _ = _
                simp only [Act.put, List.setIfInBounds_toArray, List.set_cons_zero, List.set_cons_succ, i64_w, i32_w]
                rfl
              refine stepP HT_ 15 (some 68) ?_
            rotate_left
          focus
            refine one_ (i := 16) (N := some 69) #[true, true, true, true, true, true, true, true, true, true, true, true, true, true, true, true, true, false, false] rfl rfl (one_of HT_.out (by kernel_rfl)) (by decide) (fun K hK => ?_)
            refine goes_ Try.func24 (by kernel_rfl) rfl #[] (by rfl) rfl rfl (by (try simp only [List.map_toArray, List.map_cons, List.map_nil]); first | done | rfl | (simp only [List.length_drop, List.length_take]; rfl)) ?_
            with_reducible refine (rialtolaw08_live.calls kj6  t630 _ A47.out).mono ?_
            rintro e wyi3 ⟨rfl, hb⟩
            refine ⟨_, rfl, ?_⟩
            have n0_ := Aside0.mk (Kd.R_below (by (with_reducible repeat (first | apply Kd.R_alloc | apply Kd.R_drewN | apply Kd.R_drew)); exact HO_621002.out) hb)
            have n1_ := Aside0.mk (Kd.R_below (by (with_reducible repeat (first | apply Kd.R_alloc | apply Kd.R_drewN | apply Kd.R_drew)); exact HO625.out) hb)
            have n2_ := Aside0.mk (Kd.R_below (by (with_reducible repeat (first | apply Kd.R_alloc | apply Kd.R_drewN | apply Kd.R_drew)); exact HO628.out) hb)
            have n3_ := Aside0.mk (blk_below (g := gb607) (o := .cells #[.int .i64 a0_0, .int .i64 a0_1, .slice A0_2 l0_2.length c0_2, .int .i64 a0_3] 26 (0, 0)) (by (with_reducible repeat (first | refine blk_drewN ?_ _ | refine blk_drew ?_ | refine blk_alloc ?_ _)); exact BK607.out) hb)
            have n4_ := Aside0.mk (blk_below (g := gb608) (o := .cells #[.int .i64 a1_0, .int .i64 a1_1, .slice A1_2 l1_2.length c1_2, .int .i64 a1_3] 41 (0, 0)) (by (with_reducible repeat (first | refine blk_drewN ?_ _ | refine blk_drew ?_ | refine blk_alloc ?_ _)); exact BK608.out) hb)
            have n5_ := Aside0.mk (blk_below (g := gb620) (o := .cells #[.int .i64 t611, .int .i64 t612, .slice Ao20 t613.length co20, .int .i64 t616] 26 (0, 0)) (by (with_reducible repeat (first | refine blk_drewN ?_ _ | refine blk_drew ?_ | refine blk_alloc ?_ _)); exact BK620.out) hb)
            have n6_ := Aside0.mk (below_step (by repeat (first | (with_reducible first | exact HB.out | apply below_alloc | apply pw_below_drewN | apply below_drew1 | refine below_set ?_ GE607.out | refine below_set ?_ GE608.out | refine below_set ?_ GE620.out) | exact HB.out)) hb)
            clear HO_621002
            clear HO625
            clear HO628
            clear BK607
            clear BK608
            clear BK620
            clear HB
            have HO_621002 := n0_
            have HO625 := n1_
            have HO628 := n2_
            have BK607 := n3_
            have BK608 := n4_
            have BK620 := n5_
            have HB := n6_
            clear n0_ n1_ n2_ n3_ n4_ n5_ n6_
            (try clear hb)
            (try clear hb2)
            (try clear hk)
            (try clear hi)
            refine hK.out _ _ ⟨(blk_cell BK620.out 0).trans rfl, (blk_cell BK620.out 1).trans rfl, (blk_cell BK620.out 2).trans rfl, (blk_cell BK620.out 3).trans rfl, (blk_cell BK607.out 0).trans rfl, (blk_cell BK607.out 1).trans rfl, (blk_cell BK607.out 2).trans rfl, (blk_cell BK607.out 3).trans rfl⟩ (fun hHeld => ?_)
            clear hK K
            refine norm_ (a' := ?_) ?_ ?_
            rotate_left
            · show Act.put _ (some 69) _ = _
              simp only [Act.put, List.setIfInBounds_toArray, List.set_cons_zero, List.set_cons_succ, i64_w, i32_w]
              rfl
            refine stepP HT_ 17 (some 70) ?_
            refine stepP HT_ 18 (some 4) ?_
            refine done_ (done_of HT_.out (by kernel_rfl)) ?_
            try go_wp2
            go_ret
            exact ⟨by first | rfl | (simp [errW_none, errW_some] <;> rfl) | (simp [*, errW_none, errW_some] <;> rfl), by repeat (first | (with_reducible first | exact HB.out | apply below_alloc | apply pw_below_drewN | apply below_drew1 | refine below_set ?_ GE607.out | refine below_set ?_ GE608.out | refine below_set ?_ GE620.out) | exact HB.out)⟩
          focus
            refine stepU HT_ 16 (some 69) ?_
            refine stepP HT_ 17 (some 70) ?_
            refine stepP HT_ 18 (some 4) ?_
            refine done_ (done_of HT_.out (by kernel_rfl)) ?_
            try go_wp2
            go_ret
            exact ⟨by first | rfl | (simp [errW_none, errW_some] <;> rfl) | (simp [*, errW_none, errW_some] <;> rfl), by repeat (first | (with_reducible first | exact HB.out | apply below_alloc | apply pw_below_drewN | apply below_drew1 | refine below_set ?_ GE607.out | refine below_set ?_ GE608.out | refine below_set ?_ GE620.out) | exact HB.out)⟩
    · rw [if_neg c6] at H
      have c6b0 : (t619 == 0) = false := beq_eq_false_iff_ne.mpr c6
      have c6b1 : (t619 != 0) = true := bne_iff_ne.mpr c6
      replace H := Option.bind_eq_some_iff.mp H
      obtain ⟨t621, A650, H⟩ := H
      replace H : (some t621) = some r := H
      have A65 := Aside0.mk A650
      clear A650
      obtain rfl := Option.some.inj H
      go_enter Try.func10, Try.ntmps10
      go_wp2_with (first | ((with_reducible refine gate_dst (N := 2) rfl ?_); refine box_event ?hg (N := 2) ?hd (cs := #[.int .i64 a0_0, .int .i64 a0_1, .slice A0_2 l0_2.length c0_2, .int .i64 a0_3]) (t := 26) ?hr ?_; (case hd => rfl); (case hg => rfl); (case hr => first | (go_simp; done) | (go_simp; rfl)); intro gb607 hg w66 hbox hb; have n0_ := Aside0.mk (below_step (by repeat (first | (with_reducible first | exact HB.out | apply below_alloc | apply pw_below_drewN | apply below_drew1) | exact HB.out)) hb); have n1_ := Aside0.mk (hbox); have n2_ := Aside0.mk ((by rw [hg]; exact (below_size (by repeat (first | (with_reducible first | exact HB.out | apply below_alloc | apply pw_below_drewN | apply below_drew1) | exact HB.out))) : w.heap.size ≤ gb607)); have n3_ := Aside0.mk ((by rw [hg]; exact (below_size (by repeat (first | (with_reducible first | exact HB.out | apply below_alloc | apply pw_below_drewN | apply below_drew1) | exact HB.out))) : w.heap.size ≤ gb607)); clear HB; have HB := n0_; have BK607 := n1_; have GW607 := n2_; have GE607 := n3_; clear n0_ n1_ n2_ n3_; clear hb hbox hg) | ((with_reducible refine gate_dst (N := 3) rfl ?_); refine box_event ?hg (N := 3) ?hd (cs := #[.int .i64 a1_0, .int .i64 a1_1, .slice A1_2 l1_2.length c1_2, .int .i64 a1_3]) (t := 41) ?hr ?_; (case hd => rfl); (case hg => rfl); (case hr => first | (go_simp; done) | (go_simp; rfl)); intro gb608 hg w67 hbox hb; have n0_ := Aside0.mk (blk_below (g := gb607) (o := .cells #[.int .i64 a0_0, .int .i64 a0_1, .slice A0_2 l0_2.length c0_2, .int .i64 a0_3] 26 (0, 0)) (by (with_reducible repeat (first | refine blk_drewN ?_ _ | refine blk_drew ?_ | refine blk_alloc ?_ _)); exact BK607.out) hb); have n1_ := Aside0.mk (below_step (by repeat (first | (with_reducible first | exact HB.out | apply below_alloc | apply pw_below_drewN | apply below_drew1 | refine below_set ?_ GE607.out) | exact HB.out)) hb); have n2_ := Aside0.mk (hbox); have n3_ := Aside0.mk ((by rw [hg]; exact (below_size (by repeat (first | (with_reducible first | exact HB.out | apply below_alloc | apply pw_below_drewN | apply below_drew1 | refine below_set ?_ GE607.out) | exact HB.out))) : w.heap.size ≤ gb608)); have n4_ := Aside0.mk ((by rw [hg]; exact (below_size (by repeat (first | (with_reducible first | exact HB.out | apply below_alloc | apply pw_below_drewN | apply below_drew1 | refine below_set ?_ GE607.out) | exact HB.out))) : w.heap.size ≤ gb608)); have n5_ := Aside0.mk ((by rw [hg]; exact Nat.ne_of_lt (blk_lt (g := gb607) (o := .cells #[.int .i64 a0_0, .int .i64 a0_1, .slice A0_2 l0_2.length c0_2, .int .i64 a0_3] 26 (0, 0)) (by (with_reducible repeat (first | refine blk_drewN ?_ _ | refine blk_drew ?_ | refine blk_alloc ?_ _)); exact BK607.out)) : gb607 ≠ gb608)); have n6_ := Aside0.mk ((by rw [hg]; exact Nat.ne_of_gt (blk_lt (g := gb607) (o := .cells #[.int .i64 a0_0, .int .i64 a0_1, .slice A0_2 l0_2.length c0_2, .int .i64 a0_3] 26 (0, 0)) (by (with_reducible repeat (first | refine blk_drewN ?_ _ | refine blk_drew ?_ | refine blk_alloc ?_ _)); exact BK607.out)) : gb608 ≠ gb607)); clear BK607; clear HB; have BK607 := n0_; have HB := n1_; have BK608 := n2_; have GW608 := n3_; have GE608 := n4_; have NB607_608 := n5_; have NB608_607 := n6_; clear n0_ n1_ n2_ n3_ n4_ n5_ n6_; clear hb hbox hg; have hnb68 := NB607_608.out; have hnc68 := NB608_607.out; have hcz69_0 : w67.cell? ⟨gb607, 0, none⟩ = some (.int .i64 a0_0) := (blk_cell BK607.out 0).trans rfl; have hcz69_1 : w67.cell? ⟨gb607, 1, none⟩ = some (.int .i64 a0_1) := (blk_cell BK607.out 1).trans rfl; have hcz69_2 : w67.cell? ⟨gb607, 2, none⟩ = some (.slice A0_2 l0_2.length c0_2) := (blk_cell BK607.out 2).trans rfl; have hcz69_3 : w67.cell? ⟨gb607, 3, none⟩ = some (.int .i64 a0_3) := (blk_cell BK607.out 3).trans rfl; have hfz69_0 := blk_frozen BK607.out 0; have hfz69_1 := blk_frozen BK607.out 1; have hfz69_2 := blk_frozen BK607.out 2; have hfz69_3 := blk_frozen BK607.out 3) | ((with_reducible refine gate_callee (f := 30) rfl ?_); refine goesL_ (some 11) rfl rfl Try.func30 (by kernel_rfl) rfl #[.agg #[.int .i64 a0_0, .int .i64 a0_1, .slice A0_2 l0_2.length c0_2, .int .i64 a0_3]] rfl (by (try simp only [List.map_toArray, List.map_cons, List.map_nil]); first | done | rfl | (simp only [List.length_drop, List.length_take]; rfl)) ?_; (with_reducible refine (entries_Check.calls k a0_0 a0_1 _ _ l0_2 a0_3 t609 _ ?side1 ?side2 A3.out).mono ?_); (case side1 => repeat (first | exact (Kd.C_below HR0_2.out HB.out) | (with_reducible refine Kd.C_alloc ?_ _) | (with_reducible refine Kd.C_drewN ?_ _) | (with_reducible refine Kd.C_drew ?_))); (case side2 => exact HC0_2.out); rintro e w70 ⟨rfl, hb⟩; refine ⟨_, rfl, ?_⟩; have n0_ := Aside0.mk (blk_below (g := gb607) (o := .cells #[.int .i64 a0_0, .int .i64 a0_1, .slice A0_2 l0_2.length c0_2, .int .i64 a0_3] 26 (0, 0)) (by (with_reducible repeat (first | refine blk_drewN ?_ _ | refine blk_drew ?_ | refine blk_alloc ?_ _)); exact BK607.out) hb); have n1_ := Aside0.mk (blk_below (g := gb608) (o := .cells #[.int .i64 a1_0, .int .i64 a1_1, .slice A1_2 l1_2.length c1_2, .int .i64 a1_3] 41 (0, 0)) (by (with_reducible repeat (first | refine blk_drewN ?_ _ | refine blk_drew ?_ | refine blk_alloc ?_ _)); exact BK608.out) hb); have n2_ := Aside0.mk (below_step (by repeat (first | (with_reducible first | exact HB.out | apply below_alloc | apply pw_below_drewN | apply below_drew1 | refine below_set ?_ GE607.out | refine below_set ?_ GE608.out) | exact HB.out)) hb); clear BK607; clear BK608; clear HB; have BK607 := n0_; have BK608 := n1_; have HB := n2_; clear n0_ n1_ n2_; (try clear hb); (try clear hb2); (try clear hk); (try clear hi); have hcz71_0 : w70.cell? ⟨gb607, 0, none⟩ = some (.int .i64 a0_0) := (blk_cell BK607.out 0).trans rfl; have hcz71_1 : w70.cell? ⟨gb607, 1, none⟩ = some (.int .i64 a0_1) := (blk_cell BK607.out 1).trans rfl; have hcz71_2 : w70.cell? ⟨gb607, 2, none⟩ = some (.slice A0_2 l0_2.length c0_2) := (blk_cell BK607.out 2).trans rfl; have hcz71_3 : w70.cell? ⟨gb607, 3, none⟩ = some (.int .i64 a0_3) := (blk_cell BK607.out 3).trans rfl; have hfz71_0 := blk_frozen BK607.out 0; have hfz71_1 := blk_frozen BK607.out 1; have hfz71_2 := blk_frozen BK607.out 2; have hfz71_3 := blk_frozen BK607.out 3; have hcz72_0 : w70.cell? ⟨gb608, 0, none⟩ = some (.int .i64 a1_0) := (blk_cell BK608.out 0).trans rfl; have hcz72_1 : w70.cell? ⟨gb608, 1, none⟩ = some (.int .i64 a1_1) := (blk_cell BK608.out 1).trans rfl; have hcz72_2 : w70.cell? ⟨gb608, 2, none⟩ = some (.slice A1_2 l1_2.length c1_2) := (blk_cell BK608.out 2).trans rfl; have hcz72_3 : w70.cell? ⟨gb608, 3, none⟩ = some (.int .i64 a1_3) := (blk_cell BK608.out 3).trans rfl; have hfz72_0 := blk_frozen BK608.out 0; have hfz72_1 := blk_frozen BK608.out 1; have hfz72_2 := blk_frozen BK608.out 2; have hfz72_3 := blk_frozen BK608.out 3) | ((with_reducible refine gate_callee (f := 20) rfl ?_); refine goesL_ (some 22) rfl rfl Try.func20 (by kernel_rfl) rfl #[.agg #[.int .i64 a0_0, .int .i64 a0_1, .slice A0_2 l0_2.length c0_2, .int .i64 a0_3], .agg #[.int .i64 a1_0, .int .i64 a1_1], .slice A1_2 l1_2.length c1_2, .int .i64 a1_3] rfl (by (try simp only [List.map_toArray, List.map_cons, List.map_nil]); first | done | rfl | (simp only [List.length_drop, List.length_take]; rfl)) ?_; (with_reducible refine (entries_Accept.calls k a0_0 a0_1 _ _ l0_2 a0_3 a1_0 a1_1 _ _ l1_2 a1_3 t611 t612 t613 t616 t617 t618 t619 _ ?side1 ?side2 ?side3 ?side4 A5.out).mono ?_); (case side1 => repeat (first | exact (Kd.C_below HR0_2.out HB.out) | (with_reducible refine Kd.C_alloc ?_ _) | (with_reducible refine Kd.C_drewN ?_ _) | (with_reducible refine Kd.C_drew ?_))); (case side2 => exact HC0_2.out); (case side3 => repeat (first | exact (Kd.C_below HR1_2.out HB.out) | (with_reducible refine Kd.C_alloc ?_ _) | (with_reducible refine Kd.C_drewN ?_ _) | (with_reducible refine Kd.C_drew ?_))); (case side4 => exact HC1_2.out); rintro e w73 ⟨v614, rfl, ho0, hb⟩; refine ⟨_, rfl, ?_⟩; have n0_ := Aside0.mk (Kd.R_lower ho0 (below_size (by repeat (first | (with_reducible first | exact HB.out | apply below_alloc | apply pw_below_drewN | apply below_drew1 | refine below_set ?_ GE607.out | refine below_set ?_ GE608.out) | exact HB.out)))); have n1_ := Aside0.mk (blk_below (g := gb607) (o := .cells #[.int .i64 a0_0, .int .i64 a0_1, .slice A0_2 l0_2.length c0_2, .int .i64 a0_3] 26 (0, 0)) (by (with_reducible repeat (first | refine blk_drewN ?_ _ | refine blk_drew ?_ | refine blk_alloc ?_ _)); exact BK607.out) hb); have n2_ := Aside0.mk (blk_below (g := gb608) (o := .cells #[.int .i64 a1_0, .int .i64 a1_1, .slice A1_2 l1_2.length c1_2, .int .i64 a1_3] 41 (0, 0)) (by (with_reducible repeat (first | refine blk_drewN ?_ _ | refine blk_drew ?_ | refine blk_alloc ?_ _)); exact BK608.out) hb); have n3_ := Aside0.mk (below_step (by repeat (first | (with_reducible first | exact HB.out | apply below_alloc | apply pw_below_drewN | apply below_drew1 | refine below_set ?_ GE607.out | refine below_set ?_ GE608.out) | exact HB.out)) hb); clear BK607; clear BK608; clear HB; have HO615 := n0_; have BK607 := n1_; have BK608 := n2_; have HB := n3_; clear n0_ n1_ n2_ n3_; (try clear hb); (try clear hb2); (try clear hk); (try clear hi); (try clear ho0)) | ((with_reducible refine gate_dst (N := 5) rfl ?_); refine box_event ?hg (N := 5) ?hd (cs := #[.int .i64 0, .int .i64 0, .slice none 0 0, .int .i64 0]) (t := 26) ?hr ?_; (case hd => rfl); (case hg => rfl); (case hr => first | (go_simp; done) | (go_simp; rfl)); intro gb620 hg w74 hbox hb; have n0_ := Aside0.mk (Kd.R_below (by (with_reducible repeat (first | apply Kd.R_alloc | apply Kd.R_drewN | apply Kd.R_drew)); exact HO615.out) hb); have n1_ := Aside0.mk (blk_below (g := gb607) (o := .cells #[.int .i64 a0_0, .int .i64 a0_1, .slice A0_2 l0_2.length c0_2, .int .i64 a0_3] 26 (0, 0)) (by (with_reducible repeat (first | refine blk_drewN ?_ _ | refine blk_drew ?_ | refine blk_alloc ?_ _)); exact BK607.out) hb); have n2_ := Aside0.mk (blk_below (g := gb608) (o := .cells #[.int .i64 a1_0, .int .i64 a1_1, .slice A1_2 l1_2.length c1_2, .int .i64 a1_3] 41 (0, 0)) (by (with_reducible repeat (first | refine blk_drewN ?_ _ | refine blk_drew ?_ | refine blk_alloc ?_ _)); exact BK608.out) hb); have n3_ := Aside0.mk (below_step (by repeat (first | (with_reducible first | exact HB.out | apply below_alloc | apply pw_below_drewN | apply below_drew1 | refine below_set ?_ GE607.out | refine below_set ?_ GE608.out) | exact HB.out)) hb); have n4_ := Aside0.mk (hbox); have n5_ := Aside0.mk ((by rw [hg]; exact (below_size (by repeat (first | (with_reducible first | exact HB.out | apply below_alloc | apply pw_below_drewN | apply below_drew1 | refine below_set ?_ GE607.out | refine below_set ?_ GE608.out) | exact HB.out))) : w.heap.size ≤ gb620)); have n6_ := Aside0.mk ((by rw [hg]; exact (below_size (by repeat (first | (with_reducible first | exact HB.out | apply below_alloc | apply pw_below_drewN | apply below_drew1 | refine below_set ?_ GE607.out | refine below_set ?_ GE608.out) | exact HB.out))) : w.heap.size ≤ gb620)); have n7_ := Aside0.mk ((by rw [hg]; exact Nat.ne_of_lt (blk_lt (g := gb607) (o := .cells #[.int .i64 a0_0, .int .i64 a0_1, .slice A0_2 l0_2.length c0_2, .int .i64 a0_3] 26 (0, 0)) (by (with_reducible repeat (first | refine blk_drewN ?_ _ | refine blk_drew ?_ | refine blk_alloc ?_ _)); exact BK607.out)) : gb607 ≠ gb620)); have n8_ := Aside0.mk ((by rw [hg]; exact Nat.ne_of_gt (blk_lt (g := gb607) (o := .cells #[.int .i64 a0_0, .int .i64 a0_1, .slice A0_2 l0_2.length c0_2, .int .i64 a0_3] 26 (0, 0)) (by (with_reducible repeat (first | refine blk_drewN ?_ _ | refine blk_drew ?_ | refine blk_alloc ?_ _)); exact BK607.out)) : gb620 ≠ gb607)); have n9_ := Aside0.mk ((by rw [hg]; exact Nat.ne_of_lt (blk_lt (g := gb608) (o := .cells #[.int .i64 a1_0, .int .i64 a1_1, .slice A1_2 l1_2.length c1_2, .int .i64 a1_3] 41 (0, 0)) (by (with_reducible repeat (first | refine blk_drewN ?_ _ | refine blk_drew ?_ | refine blk_alloc ?_ _)); exact BK608.out)) : gb608 ≠ gb620)); have n10_ := Aside0.mk ((by rw [hg]; exact Nat.ne_of_gt (blk_lt (g := gb608) (o := .cells #[.int .i64 a1_0, .int .i64 a1_1, .slice A1_2 l1_2.length c1_2, .int .i64 a1_3] 41 (0, 0)) (by (with_reducible repeat (first | refine blk_drewN ?_ _ | refine blk_drew ?_ | refine blk_alloc ?_ _)); exact BK608.out)) : gb620 ≠ gb608)); clear HO615; clear BK607; clear BK608; clear HB; have HO615 := n0_; have BK607 := n1_; have BK608 := n2_; have HB := n3_; have BK620 := n4_; have GW620 := n5_; have GE620 := n6_; have NB607_620 := n7_; have NB620_607 := n8_; have NB608_620 := n9_; have NB620_608 := n10_; clear n0_ n1_ n2_ n3_ n4_ n5_ n6_ n7_ n8_ n9_ n10_; clear hb hbox hg; have hnb75 := NB620_607.out; have hnc75 := NB607_620.out; have hnb76 := NB620_608.out; have hnc76 := NB608_620.out; have hcz77_0 : w74.cell? ⟨gb620, 0, none⟩ = some (.int .i64 0) := (blk_cell BK620.out 0).trans rfl; have hcz77_1 : w74.cell? ⟨gb620, 1, none⟩ = some (.int .i64 0) := (blk_cell BK620.out 1).trans rfl; have hcz77_2 : w74.cell? ⟨gb620, 2, none⟩ = some (.slice none 0 0) := (blk_cell BK620.out 2).trans rfl; have hcz77_3 : w74.cell? ⟨gb620, 3, none⟩ = some (.int .i64 0) := (blk_cell BK620.out 3).trans rfl; have hfz77_0 := blk_frozen BK620.out 0; have hfz77_1 := blk_frozen BK620.out 1; have hfz77_2 := blk_frozen BK620.out 2; have hfz77_3 := blk_frozen BK620.out 3; obtain ⟨Ao78, co78, eo78⟩ := Kd.R_slice HO615.out; subst eo78) | ((with_reducible refine gate_callee (f := 24) rfl ?_); refine goesL_ (some 29) rfl rfl Try.func24 (by kernel_rfl) rfl #[] rfl (by (try simp only [List.map_toArray, List.map_cons, List.map_nil]); first | done | rfl | (simp only [List.length_drop, List.length_take]; rfl)) ?_; (with_reducible refine (rialtolaw08_live.calls k  t621 _ A65.out).mono ?_); rintro e w79 ⟨rfl, hb⟩; refine ⟨_, rfl, ?_⟩; have n0_ := Aside0.mk (Kd.R_below (by (with_reducible repeat (first | apply Kd.R_alloc | apply Kd.R_drewN | apply Kd.R_drew)); exact (Kd.R_mono (Kd.R_far (p := ⟨gb620, 3, none⟩) (Kd.R_far (p := ⟨gb620, 2, none⟩) (Kd.R_far (p := ⟨gb620, 1, none⟩) (Kd.R_far (p := ⟨gb620, 0, none⟩) (Kd.R_types HO615.out BK620.out (by decide)) (fun _ hk => hk.2) (.int .i64 t611)) (fun _ hk => hk.2) (.int .i64 t612)) (fun _ hk => hk.2) (.slice Ao78 t613.length co78)) (fun _ hk => hk.2) (.int .i64 t616)) (fun _ h_ => h_.1))) hb); have n1_ := Aside0.mk (blk_below (g := gb607) (o := .cells #[.int .i64 a0_0, .int .i64 a0_1, .slice A0_2 l0_2.length c0_2, .int .i64 a0_3] 26 (0, 0)) (by (with_reducible repeat (first | refine blk_drewN ?_ _ | refine blk_drew ?_ | refine blk_alloc ?_ _)); refine blk_far ?_ NB607_620.out _; (with_reducible repeat (first | refine blk_drewN ?_ _ | refine blk_drew ?_ | refine blk_alloc ?_ _)); refine blk_far ?_ NB607_620.out _; (with_reducible repeat (first | refine blk_drewN ?_ _ | refine blk_drew ?_ | refine blk_alloc ?_ _)); refine blk_far ?_ NB607_620.out _; (with_reducible repeat (first | refine blk_drewN ?_ _ | refine blk_drew ?_ | refine blk_alloc ?_ _)); refine blk_far ?_ NB607_620.out _; (with_reducible repeat (first | refine blk_drewN ?_ _ | refine blk_drew ?_ | refine blk_alloc ?_ _)); exact BK607.out) hb); have n2_ := Aside0.mk (blk_below (g := gb608) (o := .cells #[.int .i64 a1_0, .int .i64 a1_1, .slice A1_2 l1_2.length c1_2, .int .i64 a1_3] 41 (0, 0)) (by (with_reducible repeat (first | refine blk_drewN ?_ _ | refine blk_drew ?_ | refine blk_alloc ?_ _)); refine blk_far ?_ NB608_620.out _; (with_reducible repeat (first | refine blk_drewN ?_ _ | refine blk_drew ?_ | refine blk_alloc ?_ _)); refine blk_far ?_ NB608_620.out _; (with_reducible repeat (first | refine blk_drewN ?_ _ | refine blk_drew ?_ | refine blk_alloc ?_ _)); refine blk_far ?_ NB608_620.out _; (with_reducible repeat (first | refine blk_drewN ?_ _ | refine blk_drew ?_ | refine blk_alloc ?_ _)); refine blk_far ?_ NB608_620.out _; (with_reducible repeat (first | refine blk_drewN ?_ _ | refine blk_drew ?_ | refine blk_alloc ?_ _)); exact BK608.out) hb); have n3_ := Aside0.mk (blk_below (g := gb620) (o := .cells #[.int .i64 t611, .int .i64 t612, .slice Ao78 t613.length co78, .int .i64 t616] 26 (0, 0)) (by (with_reducible repeat (first | refine blk_drewN ?_ _ | refine blk_drew ?_ | refine blk_alloc ?_ _)); refine blk_put (cs := #[.int .i64 t611, .int .i64 t612, .slice Ao78 t613.length co78, .int .i64 0]) ?_ 3 _ rfl; (with_reducible repeat (first | refine blk_drewN ?_ _ | refine blk_drew ?_ | refine blk_alloc ?_ _)); refine blk_put (cs := #[.int .i64 t611, .int .i64 t612, .slice none 0 0, .int .i64 0]) ?_ 2 _ rfl; (with_reducible repeat (first | refine blk_drewN ?_ _ | refine blk_drew ?_ | refine blk_alloc ?_ _)); refine blk_put (cs := #[.int .i64 t611, .int .i64 0, .slice none 0 0, .int .i64 0]) ?_ 1 _ rfl; (with_reducible repeat (first | refine blk_drewN ?_ _ | refine blk_drew ?_ | refine blk_alloc ?_ _)); refine blk_put (cs := #[.int .i64 0, .int .i64 0, .slice none 0 0, .int .i64 0]) ?_ 0 _ rfl; (with_reducible repeat (first | refine blk_drewN ?_ _ | refine blk_drew ?_ | refine blk_alloc ?_ _)); exact BK620.out) hb); have n4_ := Aside0.mk (below_step (by repeat (first | (with_reducible first | exact HB.out | apply below_alloc | apply pw_below_drewN | apply below_drew1 | refine below_set ?_ GE607.out | refine below_set ?_ GE608.out | refine below_set ?_ GE620.out) | exact HB.out)) hb); clear HO615; clear BK607; clear BK608; clear BK620; clear HB; have HO615 := n0_; have BK607 := n1_; have BK608 := n2_; have BK620 := n3_; have HB := n4_; clear n0_ n1_ n2_ n3_ n4_; (try clear hb); (try clear hb2); (try clear hk); (try clear hi)))
      go_ret
      exact ⟨by first | rfl | (simp [errW_none, errW_some] <;> rfl) | (simp [*, errW_none, errW_some] <;> rfl), by repeat (first | (with_reducible first | exact HB.out | apply below_alloc | apply pw_below_drewN | apply below_drew1 | refine below_set ?_ GE607.out | refine below_set ?_ GE608.out | refine below_set ?_ GE620.out) | exact HB.out)⟩
  · rw [if_neg c4] at H
    have c4b0 : (t609 == 0) = false := beq_eq_false_iff_ne.mpr c4
    have c4b1 : (t609 != 0) = true := bne_iff_ne.mpr c4
    replace H := Option.bind_eq_some_iff.mp H
    obtain ⟨t610, A800, H⟩ := H
    replace H : (some t610) = some r := H
    have A80 := Aside0.mk A800
    clear A800
    obtain rfl := Option.some.inj H
    go_enter Try.func10, Try.ntmps10
    go_wp2_with (first | ((with_reducible refine gate_dst (N := 2) rfl ?_); refine box_event ?hg (N := 2) ?hd (cs := #[.int .i64 a0_0, .int .i64 a0_1, .slice A0_2 l0_2.length c0_2, .int .i64 a0_3]) (t := 26) ?hr ?_; (case hd => rfl); (case hg => rfl); (case hr => first | (go_simp; done) | (go_simp; rfl)); intro gb607 hg w81 hbox hb; have n0_ := Aside0.mk (below_step (by repeat (first | (with_reducible first | exact HB.out | apply below_alloc | apply pw_below_drewN | apply below_drew1) | exact HB.out)) hb); have n1_ := Aside0.mk (hbox); have n2_ := Aside0.mk ((by rw [hg]; exact (below_size (by repeat (first | (with_reducible first | exact HB.out | apply below_alloc | apply pw_below_drewN | apply below_drew1) | exact HB.out))) : w.heap.size ≤ gb607)); have n3_ := Aside0.mk ((by rw [hg]; exact (below_size (by repeat (first | (with_reducible first | exact HB.out | apply below_alloc | apply pw_below_drewN | apply below_drew1) | exact HB.out))) : w.heap.size ≤ gb607)); clear HB; have HB := n0_; have BK607 := n1_; have GW607 := n2_; have GE607 := n3_; clear n0_ n1_ n2_ n3_; clear hb hbox hg) | ((with_reducible refine gate_dst (N := 3) rfl ?_); refine box_event ?hg (N := 3) ?hd (cs := #[.int .i64 a1_0, .int .i64 a1_1, .slice A1_2 l1_2.length c1_2, .int .i64 a1_3]) (t := 41) ?hr ?_; (case hd => rfl); (case hg => rfl); (case hr => first | (go_simp; done) | (go_simp; rfl)); intro gb608 hg w82 hbox hb; have n0_ := Aside0.mk (blk_below (g := gb607) (o := .cells #[.int .i64 a0_0, .int .i64 a0_1, .slice A0_2 l0_2.length c0_2, .int .i64 a0_3] 26 (0, 0)) (by (with_reducible repeat (first | refine blk_drewN ?_ _ | refine blk_drew ?_ | refine blk_alloc ?_ _)); exact BK607.out) hb); have n1_ := Aside0.mk (below_step (by repeat (first | (with_reducible first | exact HB.out | apply below_alloc | apply pw_below_drewN | apply below_drew1 | refine below_set ?_ GE607.out) | exact HB.out)) hb); have n2_ := Aside0.mk (hbox); have n3_ := Aside0.mk ((by rw [hg]; exact (below_size (by repeat (first | (with_reducible first | exact HB.out | apply below_alloc | apply pw_below_drewN | apply below_drew1 | refine below_set ?_ GE607.out) | exact HB.out))) : w.heap.size ≤ gb608)); have n4_ := Aside0.mk ((by rw [hg]; exact (below_size (by repeat (first | (with_reducible first | exact HB.out | apply below_alloc | apply pw_below_drewN | apply below_drew1 | refine below_set ?_ GE607.out) | exact HB.out))) : w.heap.size ≤ gb608)); have n5_ := Aside0.mk ((by rw [hg]; exact Nat.ne_of_lt (blk_lt (g := gb607) (o := .cells #[.int .i64 a0_0, .int .i64 a0_1, .slice A0_2 l0_2.length c0_2, .int .i64 a0_3] 26 (0, 0)) (by (with_reducible repeat (first | refine blk_drewN ?_ _ | refine blk_drew ?_ | refine blk_alloc ?_ _)); exact BK607.out)) : gb607 ≠ gb608)); have n6_ := Aside0.mk ((by rw [hg]; exact Nat.ne_of_gt (blk_lt (g := gb607) (o := .cells #[.int .i64 a0_0, .int .i64 a0_1, .slice A0_2 l0_2.length c0_2, .int .i64 a0_3] 26 (0, 0)) (by (with_reducible repeat (first | refine blk_drewN ?_ _ | refine blk_drew ?_ | refine blk_alloc ?_ _)); exact BK607.out)) : gb608 ≠ gb607)); clear BK607; clear HB; have BK607 := n0_; have HB := n1_; have BK608 := n2_; have GW608 := n3_; have GE608 := n4_; have NB607_608 := n5_; have NB608_607 := n6_; clear n0_ n1_ n2_ n3_ n4_ n5_ n6_; clear hb hbox hg; have hnb83 := NB607_608.out; have hnc83 := NB608_607.out; have hcz84_0 : w82.cell? ⟨gb607, 0, none⟩ = some (.int .i64 a0_0) := (blk_cell BK607.out 0).trans rfl; have hcz84_1 : w82.cell? ⟨gb607, 1, none⟩ = some (.int .i64 a0_1) := (blk_cell BK607.out 1).trans rfl; have hcz84_2 : w82.cell? ⟨gb607, 2, none⟩ = some (.slice A0_2 l0_2.length c0_2) := (blk_cell BK607.out 2).trans rfl; have hcz84_3 : w82.cell? ⟨gb607, 3, none⟩ = some (.int .i64 a0_3) := (blk_cell BK607.out 3).trans rfl; have hfz84_0 := blk_frozen BK607.out 0; have hfz84_1 := blk_frozen BK607.out 1; have hfz84_2 := blk_frozen BK607.out 2; have hfz84_3 := blk_frozen BK607.out 3) | ((with_reducible refine gate_callee (f := 30) rfl ?_); refine goesL_ (some 11) rfl rfl Try.func30 (by kernel_rfl) rfl #[.agg #[.int .i64 a0_0, .int .i64 a0_1, .slice A0_2 l0_2.length c0_2, .int .i64 a0_3]] rfl (by (try simp only [List.map_toArray, List.map_cons, List.map_nil]); first | done | rfl | (simp only [List.length_drop, List.length_take]; rfl)) ?_; (with_reducible refine (entries_Check.calls k a0_0 a0_1 _ _ l0_2 a0_3 t609 _ ?side1 ?side2 A3.out).mono ?_); (case side1 => repeat (first | exact (Kd.C_below HR0_2.out HB.out) | (with_reducible refine Kd.C_alloc ?_ _) | (with_reducible refine Kd.C_drewN ?_ _) | (with_reducible refine Kd.C_drew ?_))); (case side2 => exact HC0_2.out); rintro e w85 ⟨rfl, hb⟩; refine ⟨_, rfl, ?_⟩; have n0_ := Aside0.mk (blk_below (g := gb607) (o := .cells #[.int .i64 a0_0, .int .i64 a0_1, .slice A0_2 l0_2.length c0_2, .int .i64 a0_3] 26 (0, 0)) (by (with_reducible repeat (first | refine blk_drewN ?_ _ | refine blk_drew ?_ | refine blk_alloc ?_ _)); exact BK607.out) hb); have n1_ := Aside0.mk (blk_below (g := gb608) (o := .cells #[.int .i64 a1_0, .int .i64 a1_1, .slice A1_2 l1_2.length c1_2, .int .i64 a1_3] 41 (0, 0)) (by (with_reducible repeat (first | refine blk_drewN ?_ _ | refine blk_drew ?_ | refine blk_alloc ?_ _)); exact BK608.out) hb); have n2_ := Aside0.mk (below_step (by repeat (first | (with_reducible first | exact HB.out | apply below_alloc | apply pw_below_drewN | apply below_drew1 | refine below_set ?_ GE607.out | refine below_set ?_ GE608.out) | exact HB.out)) hb); clear BK607; clear BK608; clear HB; have BK607 := n0_; have BK608 := n1_; have HB := n2_; clear n0_ n1_ n2_; (try clear hb); (try clear hb2); (try clear hk); (try clear hi)) | ((with_reducible refine gate_callee (f := 24) rfl ?_); refine goesL_ (some 13) rfl rfl Try.func24 (by kernel_rfl) rfl #[] rfl (by (try simp only [List.map_toArray, List.map_cons, List.map_nil]); first | done | rfl | (simp only [List.length_drop, List.length_take]; rfl)) ?_; (with_reducible refine (rialtolaw08_live.calls k  t610 _ A80.out).mono ?_); rintro e w86 ⟨rfl, hb⟩; refine ⟨_, rfl, ?_⟩; have n0_ := Aside0.mk (blk_below (g := gb607) (o := .cells #[.int .i64 a0_0, .int .i64 a0_1, .slice A0_2 l0_2.length c0_2, .int .i64 a0_3] 26 (0, 0)) (by (with_reducible repeat (first | refine blk_drewN ?_ _ | refine blk_drew ?_ | refine blk_alloc ?_ _)); exact BK607.out) hb); have n1_ := Aside0.mk (blk_below (g := gb608) (o := .cells #[.int .i64 a1_0, .int .i64 a1_1, .slice A1_2 l1_2.length c1_2, .int .i64 a1_3] 41 (0, 0)) (by (with_reducible repeat (first | refine blk_drewN ?_ _ | refine blk_drew ?_ | refine blk_alloc ?_ _)); exact BK608.out) hb); have n2_ := Aside0.mk (below_step (by repeat (first | (with_reducible first | exact HB.out | apply below_alloc | apply pw_below_drewN | apply below_drew1 | refine below_set ?_ GE607.out | refine below_set ?_ GE608.out) | exact HB.out)) hb); clear BK607; clear BK608; clear HB; have BK607 := n0_; have BK608 := n1_; have HB := n2_; clear n0_ n1_ n2_; (try clear hb); (try clear hb2); (try clear hk); (try clear hi)))
    go_ret
    exact ⟨by first | rfl | (simp [errW_none, errW_some] <;> rfl) | (simp [*, errW_none, errW_some] <;> rfl), by repeat (first | (with_reducible first | exact HB.out | apply below_alloc | apply pw_below_drewN | apply below_drew1 | refine below_set ?_ GE607.out | refine below_set ?_ GE608.out) | exact HB.out)⟩

end Go.Proofs.Ytiebeiloooblpaa.E
end
section
-- the statement of a law, by myprint.py
namespace Go.Proofs.Ytiebeiloooblpaa.E
open Go.RowKit Go.Proofs.YtiebeiloooblpaaW.PrintWords Go.Proofs.YtiebeiloooblpaaW.PrintLast Go.Proofs.YtiebeiloooblpaaW.PrintMore
attribute [local go_sem] max2_int min2_int max_two min_two max_three min_three max_four min_four   -- for this text's walks alone
set_option linter.unusedVariables false
set_option linter.unusedSimpArgs false

def GEl33 (x : S33) : Prop := ((Lit.int .i64 x.f0).wf = true) ∧ ((Lit.int .i64 x.f1).wf = true) ∧ x.f2.size ≤ 1048576
/-- THE PURE STATEMENT of rialtolaw08_EntriesKeep. -/
def rialtolaw08_EntriesKeep.Pure : Prop := ∀ (a0_0 : Int) (a0_1 : Int) (l0_2 : List (S33)) (a0_3 : Int) (a1_0 : Int) (a1_1 : Int) (l1_2 : List (S33)) (a1_3 : Int), ((Lit.int .i64 a0_0).wf = true) → ((Lit.int .i64 a0_1).wf = true) → (l0_2.length ≤ 1048576 ∧ ∀ y_ ∈ l0_2, GEl33 y_) → ((Lit.int .i64 a0_3).wf = true) → ((Lit.int .i64 a1_0).wf = true) → ((Lit.int .i64 a1_1).wf = true) → (l1_2.length ≤ 1048576 ∧ ∀ y_ ∈ l1_2, GEl33 y_) → ((Lit.int .i64 a1_3).wf = true) → ∃ k, rialtolaw08_EntriesKeep.f k a0_0 a0_1 l0_2 a0_3 a1_0 a1_1 l1_2 a1_3 = some true
end Go.Proofs.Ytiebeiloooblpaa.E
end
section
/- Rounds: from some round on a function answers; words for plain laws. -/
namespace Go.Proofs.YtiebeiloooblpaaW.PrintWords
theorem Ev.eqv {α : Type} {F : Nat → Option α} {v u : α} (h : Ev F u) (e : u = v) : Ev F v := e ▸ h
theorem Ev.ite {α : Type} {c : Prop} [Decidable c] {F G : Nat → Option α} {v : α} (h : c → Ev F v) (g : ¬ c → Ev G v) : Ev (fun k => if c then F k else G k) v := by
  by_cases hc : c
  · simpa [hc] using h hc
  · simpa [hc] using g hc
theorem Ev.pos {α : Type} {c : Prop} [Decidable c] {F G : Nat → Option α} {v : α} (hc : c) (h : Ev F v) : Ev (fun k => if c then F k else G k) v := by
  simpa [hc] using h
theorem Ev.neg {α : Type} {c : Prop} [Decidable c] {F G : Nat → Option α} {v : α} (hc : ¬ c) (h : Ev G v) : Ev (fun k => if c then F k else G k) v := by
  simpa [hc] using h
theorem Ev.succ {α : Type} {F : Nat → Option α} {v : α} (h : Ev (fun k => F (k + 1)) v) : Ev F v := Ev.step (fun _ => rfl) h
end Go.Proofs.YtiebeiloooblpaaW.PrintWords
namespace Go.Proofs.YtiebeiloooblpaaEV
open Go.RowKit Go.Proofs.YtiebeiloooblpaaW.PrintWords
theorem w64 (n : Int) (h0 : -9223372036854775808 ≤ n) (h1 : n ≤ 9223372036854775807) : wrap64 n = n := by
  unfold wrap64; omega
theorem drop_one {α : Type} (l : List α) (d : α) (n : Nat) (h : n < l.length) : l.drop n = l.getD n d :: l.drop (n + 1) := by
  rw [List.drop_eq_getElem_cons h]; simp [List.getD, h]
end Go.Proofs.YtiebeiloooblpaaEV
end
section
-- written by myprint.py, a program of this session over the kit's print.py
namespace Go.Proofs.Ytiebeiloooblpaa.E
open Go.RowKit Go.Proofs.YtiebeiloooblpaaW.PrintWords Go.Proofs.YtiebeiloooblpaaW.PrintLast Go.Proofs.YtiebeiloooblpaaW.PrintMore
attribute [local go_sem] max2_int min2_int max_two min_two max_three min_three max_four min_four   -- for this text's walks alone
set_option linter.unusedVariables false
set_option linter.unusedSimpArgs false

/-! ### rialtoref07_within: function 54 -/
end Go.Proofs.Ytiebeiloooblpaa.E
end
section
-- written by myprint.py, a program of this session over the kit's print.py
namespace Go.Proofs.Ytiebeiloooblpaa.E
open Go.RowKit Go.Proofs.YtiebeiloooblpaaW.PrintWords Go.Proofs.YtiebeiloooblpaaW.PrintLast Go.Proofs.YtiebeiloooblpaaW.PrintMore
attribute [local go_sem] max2_int min2_int max_two min_two max_three min_three max_four min_four   -- for this text's walks alone
set_option linter.unusedVariables false
set_option linter.unusedSimpArgs false

/-! ### rialtoref07_Mark: function 40 -/
end Go.Proofs.Ytiebeiloooblpaa.E
end
section
-- written by myprint.py, a program of this session over the kit's print.py
namespace Go.Proofs.Ytiebeiloooblpaa.E
open Go.RowKit Go.Proofs.YtiebeiloooblpaaW.PrintWords Go.Proofs.YtiebeiloooblpaaW.PrintLast Go.Proofs.YtiebeiloooblpaaW.PrintMore
attribute [local go_sem] max2_int min2_int max_two min_two max_three min_three max_four min_four   -- for this text's walks alone
set_option linter.unusedVariables false
set_option linter.unusedSimpArgs false

/-! ### rialtoref08_within: function 45 -/
end Go.Proofs.Ytiebeiloooblpaa.E
end
section
-- written by myprint.py, a program of this session over the kit's print.py
namespace Go.Proofs.Ytiebeiloooblpaa.E
open Go.RowKit Go.Proofs.YtiebeiloooblpaaW.PrintWords Go.Proofs.YtiebeiloooblpaaW.PrintLast Go.Proofs.YtiebeiloooblpaaW.PrintMore
attribute [local go_sem] max2_int min2_int max_two min_two max_three min_three max_four min_four   -- for this text's walks alone
set_option linter.unusedVariables false
set_option linter.unusedSimpArgs false

/-! ### rialtoref08_Entry: function 52 -/
end Go.Proofs.Ytiebeiloooblpaa.E
end
section
-- written by myprint.py, a program of this session over the kit's print.py
namespace Go.Proofs.Ytiebeiloooblpaa.E
open Go.RowKit Go.Proofs.YtiebeiloooblpaaW.PrintWords Go.Proofs.YtiebeiloooblpaaW.PrintLast Go.Proofs.YtiebeiloooblpaaW.PrintMore
attribute [local go_sem] max2_int min2_int max_two min_two max_three min_three max_four min_four   -- for this text's walks alone
set_option linter.unusedVariables false
set_option linter.unusedSimpArgs false

/-! ### rialtoref08_Rows: function 46 -/
end Go.Proofs.Ytiebeiloooblpaa.E
end
section
-- written by myprint.py, a program of this session over the kit's print.py
namespace Go.Proofs.Ytiebeiloooblpaa.E
open Go.RowKit Go.Proofs.YtiebeiloooblpaaW.PrintWords Go.Proofs.YtiebeiloooblpaaW.PrintLast Go.Proofs.YtiebeiloooblpaaW.PrintMore
attribute [local go_sem] max2_int min2_int max_two min_two max_three min_three max_four min_four   -- for this text's walks alone
set_option linter.unusedVariables false
set_option linter.unusedSimpArgs false

/-! ### rialtoref08_end: function 47 -/
end Go.Proofs.Ytiebeiloooblpaa.E
end
section
-- written by myprint.py, a program of this session over the kit's print.py
namespace Go.Proofs.Ytiebeiloooblpaa.E
open Go.Proofs.YtiebeiloooblpaaST
open Go.RowKit Go.Proofs.YtiebeiloooblpaaW.PrintWords Go.Proofs.YtiebeiloooblpaaW.PrintLast Go.Proofs.YtiebeiloooblpaaW.PrintMore
attribute [local go_sem] max2_int min2_int max_two min_two max_three min_three max_four min_four   -- for this text's walks alone
set_option linter.unusedVariables false
set_option linter.unusedSimpArgs false

/-! ### rialtoref08_Check: function 31 -/
end Go.Proofs.Ytiebeiloooblpaa.E
end
section
-- written by myprint.py, a program of this session over the kit's print.py
namespace Go.Proofs.Ytiebeiloooblpaa.E
open Go.RowKit Go.Proofs.YtiebeiloooblpaaW.PrintWords Go.Proofs.YtiebeiloooblpaaW.PrintLast Go.Proofs.YtiebeiloooblpaaW.PrintMore
attribute [local go_sem] max2_int min2_int max_two min_two max_three min_three max_four min_four   -- for this text's walks alone
set_option linter.unusedVariables false
set_option linter.unusedSimpArgs false

/-! ### rialtoref08_TermAt: function 28 -/
end Go.Proofs.Ytiebeiloooblpaa.E
end
section
-- written by myprint.py, a program of this session over the kit's print.py
namespace Go.Proofs.Ytiebeiloooblpaa.E
open Go.RowKit Go.Proofs.YtiebeiloooblpaaW.PrintWords Go.Proofs.YtiebeiloooblpaaW.PrintLast Go.Proofs.YtiebeiloooblpaaW.PrintMore
attribute [local go_sem] max2_int min2_int max_two min_two max_three min_three max_four min_four   -- for this text's walks alone
set_option linter.unusedVariables false
set_option linter.unusedSimpArgs false

attribute [local go_sem high] eqA23
/-! ### rialtoref08_Same: function 16 -/
end Go.Proofs.Ytiebeiloooblpaa.E
end
section
-- written by myprint.py, a program of this session over the kit's print.py
namespace Go.Proofs.Ytiebeiloooblpaa.E
open Go.RowKit Go.Proofs.YtiebeiloooblpaaW.PrintWords Go.Proofs.YtiebeiloooblpaaW.PrintLast Go.Proofs.YtiebeiloooblpaaW.PrintMore
attribute [local go_sem] max2_int min2_int max_two min_two max_three min_three max_four min_four   -- for this text's walks alone
set_option linter.unusedVariables false
set_option linter.unusedSimpArgs false

/-! ### rialtoref08_Copy: function 13 -/
end Go.Proofs.Ytiebeiloooblpaa.E
end
section
namespace Go.Proofs.Ytiebeiloooblpaa.Pure
open Go.RowKit Go.Proofs.Ytiebeiloooblpaa.E Go.Proofs.YtiebeiloooblpaaW.PrintWords Go.Proofs.YtiebeiloooblpaaW.PrintLast Go.Proofs.YtiebeiloooblpaaW.PrintMore Go.Proofs.YtiebeiloooblpaaEV
-- the plain law of layer 8's logs
def isEn (x : S33) : Bool := entries_isEntry.p x.f0 x.f1 x.f2
def isMk (i t : Int) : Bool := (decide (0 ≤ i) && decide (i ≤ 1000000)) && ((decide (0 ≤ t) && decide (t ≤ 1000000)) && ((i == 0) == (t == 0)))
def rows : List S33 → Int → Bool
  | [], _ => true
  | x :: l, f => isEn x && (decide (f ≤ x.f0) && rows l x.f0)
def chk (b0 b1 : Int) (l : List S33) (c : Int) : Bool := isMk b0 b1 && (decide (l.length ≤ 400) && (rows l b1 && (decide (b0 + l.length ≤ 1000000) && (decide (b0 ≤ c) && decide (c ≤ b0 + l.length)))))

theorem entries_within_eq (a b c : Int) : entries_within.f a b c = some (decide (b ≤ a) && decide (a ≤ c)) := by
  unfold entries_within.f; by_cases h : b ≤ a <;> simp [h]
theorem entries_isMark_eq (i t : Int) : entries_isMark.f i t = some (isMk i t) := by
  unfold entries_isMark.f isMk
  simp only [entries_within_eq, Option.bind_some]
  by_cases h : (decide (0 ≤ i) && decide (i ≤ 1000000)) = true
  · rw [if_pos h, h]
    by_cases g : (decide (0 ≤ t) && decide (t ≤ 1000000)) = true
    · rw [if_pos g, g]; simp
    · rw [if_neg g]; simp [Bool.eq_false_iff.mpr g]
  · rw [if_neg h]; simp [Bool.eq_false_iff.mpr h]
theorem rd33 (l : List S33) (n : Nat) : rd_T33 l (n : Int) = l.getD n z33 := by simp [rd_T33]

theorem entries_rising_l (l : List S33) (hl : l.length < 4398046511104) (m n : Nat) (hn : n + m = l.length) (a : Int) :
    Ev (fun k => entries_rising.l0 k a l (l.length : Int) (n : Int)) (rows (l.drop n) a) := by
  induction m generalizing n a with
  | zero =>
    refine Ev.succ ?_
    simp only [entries_rising.l0]
    refine Ev.neg (by omega) ?_
    rw [List.drop_eq_nil_of_le (by omega)]
    exact Ev.now _
  | succ m ih =>
    refine Ev.succ ?_
    simp only [entries_rising.l0]
    refine Ev.pos (by omega) ?_
    refine Ev.pos (by omega) ?_
    refine Ev.pos (by omega) ?_
    rw [rd33, drop_one l z33 n (by omega)]
    unfold entries_isEntry.f
    simp only [Option.bind_some, rows, isEn]
    by_cases h : entries_isEntry.p (l.getD n z33).f0 (l.getD n z33).f1 (l.getD n z33).f2 = true
    · simp only [h, if_true, Bool.true_and]
      by_cases g : (l.getD n z33).f0 < a
      · simp only [g, if_true]
        rw [decide_eq_false (show ¬ a ≤ (l.getD n z33).f0 by omega), Bool.false_and]
        exact Ev.now _
      · simp only [g, if_false]
        rw [w64 _ (by omega) (by omega)]
        have := ih (n + 1) (by omega) (l.getD n z33).f0
        rw [decide_eq_true (show a ≤ (l.getD n z33).f0 by omega), Bool.true_and]
        exact this
    · simp only [Bool.eq_false_iff.mpr h, Bool.false_eq_true, if_false, Bool.false_and]
      exact Ev.now _
theorem entries_rising_ev (l : List S33) (hl : l.length < 4398046511104) (a : Int) : Ev (fun k => entries_rising.f k l a) (rows l a) := by
  have := entries_rising_l l hl l.length 0 (by omega) a
  simpa [entries_rising.f] using this
theorem isMk_of {i t : Int} (h : isMk i t = true) : 0 ≤ i ∧ i ≤ 1000000 ∧ 0 ≤ t ∧ t ≤ 1000000 ∧ (i = 0 ↔ t = 0) := by
  simp only [isMk, Bool.and_eq_true, decide_eq_true_eq, beq_iff_eq] at h
  obtain ⟨⟨h1, h2⟩, ⟨h3, h4⟩, h5⟩ := h
  refine ⟨h1, h2, h3, h4, ?_⟩
  by_cases hi : i = 0
  · by_cases ht : t = 0
    · simp [hi, ht]
    · simp [hi, ht] at h5
  · by_cases ht : t = 0
    · simp [hi, ht] at h5
    · simp [hi, ht]
theorem chk_of {b0 b1 : Int} {l : List S33} {c : Int} (h : chk b0 b1 l c = true) : (0 ≤ b0 ∧ b0 ≤ 1000000 ∧ 0 ≤ b1 ∧ b1 ≤ 1000000 ∧ (b0 = 0 ↔ b1 = 0)) ∧ l.length ≤ 400 ∧ rows l b1 = true ∧ b0 + l.length ≤ 1000000 ∧ b0 ≤ c ∧ c ≤ b0 + l.length := by
  simp only [chk, Bool.and_eq_true, decide_eq_true_eq] at h
  obtain ⟨h1, h2, h3, h4, h5, h6⟩ := h
  exact ⟨isMk_of h1, h2, h3, h4, h5, h6⟩
theorem entries_Check_ev (b0 b1 : Int) (l : List S33) (c : Int) (hl : l.length < 4398046511104) :
    Ev (fun k => entries_Check.f k b0 b1 l c) (if chk b0 b1 l c = true then 0 else 80) := by
  unfold entries_Check.f chk
  simp only [entries_isMark_eq, Option.bind_some]
  by_cases h1 : isMk b0 b1 = true
  · have hm := isMk_of h1
    simp only [h1, if_true, Bool.true_and]
    by_cases h2 : (l.length : Int) > 400
    · simp only [h2, if_true]
      rw [decide_eq_false (show ¬ l.length ≤ 400 by omega)]
      simp only [Bool.false_and, Bool.false_eq_true, if_false]
      exact Ev.now _
    · simp only [h2, if_false]
      rw [decide_eq_true (show l.length ≤ 400 by omega)]
      simp only [Bool.true_and]
      refine Ev.bind (entries_rising_ev l hl b1) ?_
      by_cases h3 : rows l b1 = true
      · simp only [h3, if_true, Bool.true_and, entries_end.f, Option.bind_some, entries_within_eq]
        rw [w64 _ (by omega) (by omega)]
        by_cases h4 : b0 + (l.length : Int) ≤ 1000000
        · refine Ev.neg (by omega) ?_
          simp only [h4, decide_true, Bool.true_and]
          refine Ev.ite (fun h5 => ?_) (fun h5 => ?_)
          · rw [h5]; exact Ev.now _
          · rw [Bool.eq_false_iff.mpr h5]; exact Ev.now _
        · refine Ev.pos (by omega) ?_
          simp only [h4, decide_false, Bool.false_and, Bool.false_eq_true, if_false]
          exact Ev.now _
      · simp only [Bool.eq_false_iff.mpr h3, Bool.false_and, Bool.false_eq_true, if_false]
        exact Ev.now _
  · simp only [Bool.eq_false_iff.mpr h1, Bool.false_and, Bool.false_eq_true, if_false]
    exact Ev.now _
/-- the term at an index of a log -/
def termAt (b0 b1 : Int) (l : List S33) (c i : Int) : Int × Bool :=
  if chk b0 b1 l c = true ∧ b0 ≤ i ∧ i ≤ b0 + l.length then (if i = b0 then (b1, true) else ((l.getD (i - b0 - 1).toNat z33).f0, true)) else (0, false)
theorem entries_TermAt_ev (b0 b1 : Int) (l : List S33) (c i : Int) (hl : l.length < 4398046511104) :
    Ev (fun k => entries_TermAt.f k b0 b1 l c i) (termAt b0 b1 l c i) := by
  unfold entries_TermAt.f termAt
  refine Ev.bind (entries_Check_ev b0 b1 l c hl) ?_
  by_cases h1 : chk b0 b1 l c = true
  · obtain ⟨hm, hn, hr, he, hc⟩ := chk_of h1
    simp only [h1, if_true, true_and, entries_end.f, entries_within_eq, Option.bind_some]
    rw [w64 _ (by omega) (by omega)]
    refine Ev.succ ?_
    simp only [entries_TermAt.j0]
    by_cases h2 : b0 ≤ i ∧ i ≤ b0 + l.length
    · rw [if_pos h2]
      obtain ⟨h2, h3⟩ := h2
      refine Ev.neg (by simp; omega) ?_
      by_cases h4 : i = b0
      · refine Ev.eqv ?_ (if_pos h4).symm
        exact Ev.pos h4 (Ev.now _)
      · refine Ev.eqv ?_ (if_neg h4).symm
        have e : wrap64 (wrap64 (i - b0) - 1) = i - b0 - 1 := by rw [w64 (i - b0) (by omega) (by omega), w64 _ (by omega) (by omega)]
        rw [e]
        exact Ev.neg h4 (Ev.pos (by omega) (Ev.pos (by omega) (Ev.now _)))
    · rw [if_neg h2]
      exact Ev.pos (by simp; omega) (Ev.now _)
  · simp only [Bool.eq_false_iff.mpr h1, Bool.false_eq_true, if_false, false_and]
    refine Ev.neg (by omega) ?_
    refine Ev.succ ?_
    simp only [entries_TermAt.j0, if_true]
    exact Ev.now _
theorem ref08_SameEntries_l (l : List S33) (hl : l.length < 4398046511104) (m n : Nat) (hn : n + m = l.length) :
    Ev (fun k => rialtoref08_SameEntries.l0 k l l (n : Int)) true := by
  induction m generalizing n with
  | zero =>
    refine Ev.succ ?_
    simp only [rialtoref08_SameEntries.l0]
    refine Ev.neg (by omega) ?_
    exact Ev.now _
  | succ m ih =>
    refine Ev.succ ?_
    simp only [rialtoref08_SameEntries.l0]
    refine Ev.pos (by omega) ?_
    refine Ev.pos (by omega) ?_
    refine Ev.pos (by omega) ?_
    refine Ev.neg (by simp) ?_
    rw [w64 _ (by omega) (by omega)]
    exact ih (n + 1) (by omega)
theorem ref08_SameEntries_ev (l : List S33) (hl : l.length < 4398046511104) : Ev (fun k => rialtoref08_SameEntries.f k l l) true := by
  have := ref08_SameEntries_l l hl l.length 0 (by omega)
  simpa [rialtoref08_SameEntries.f] using this
theorem slicesClone_Entry_eq (l : List S33) (hl : l.length < 4398046511104) : slicesClone_Entry.f l = some l := by
  unfold slicesClone_Entry.f; rw [if_pos (by omega)]
end Go.Proofs.Ytiebeiloooblpaa.Pure
end
section
-- written by myprint.py, a program of this session over the kit's print.py
namespace Go.Proofs.Ytiebeiloooblpaa.E
open Go.Proofs.YtiebeiloooblpaaST
open Go.RowKit Go.Proofs.YtiebeiloooblpaaW.PrintWords Go.Proofs.YtiebeiloooblpaaW.PrintLast Go.Proofs.YtiebeiloooblpaaW.PrintMore
attribute [local go_sem] max2_int min2_int max_two min_two max_three min_three max_four min_four   -- for this text's walks alone
set_option linter.unusedVariables false
set_option linter.unusedSimpArgs false

/-! ### rialtoref08_Last: function 33 -/
end Go.Proofs.Ytiebeiloooblpaa.E
end
section
-- written by myprint.py, a program of this session over the kit's print.py
namespace Go.Proofs.Ytiebeiloooblpaa.E
open Go.RowKit Go.Proofs.YtiebeiloooblpaaW.PrintWords Go.Proofs.YtiebeiloooblpaaW.PrintLast Go.Proofs.YtiebeiloooblpaaW.PrintMore
attribute [local go_sem] max2_int min2_int max_two min_two max_three min_three max_four min_four   -- for this text's walks alone
set_option linter.unusedVariables false
set_option linter.unusedSimpArgs false

/-! ### rialtoref08_From: function 34 -/
end Go.Proofs.Ytiebeiloooblpaa.E
end
section
-- written by myprint.py, a program of this session over the kit's print.py
namespace Go.Proofs.Ytiebeiloooblpaa.E
open Go.RowKit Go.Proofs.YtiebeiloooblpaaW.PrintWords Go.Proofs.YtiebeiloooblpaaW.PrintLast Go.Proofs.YtiebeiloooblpaaW.PrintMore
attribute [local go_sem] max2_int min2_int max_two min_two max_three min_three max_four min_four   -- for this text's walks alone
set_option linter.unusedVariables false
set_option linter.unusedSimpArgs false

/-! ### rialtolaw08_spoil: function 23 -/
end Go.Proofs.Ytiebeiloooblpaa.E
end
section
namespace Go.Proofs.Ytiebeiloooblpaa.Pure
open Go.RowKit Go.Proofs.Ytiebeiloooblpaa.E Go.Proofs.YtiebeiloooblpaaW.PrintWords Go.Proofs.YtiebeiloooblpaaW.PrintLast Go.Proofs.YtiebeiloooblpaaW.PrintMore Go.Proofs.YtiebeiloooblpaaEV
-- the plain law of layer 8: the last mark, entries from an index on
def fromV (b0 b1 : Int) (l : List S33) (c i most : Int) : List S33 := if chk b0 b1 l c = true ∧ b0 < i ∧ i ≤ b0 + l.length ∧ 1 ≤ most then (l.drop (i - b0 - 1).toNat).take most.toNat else []
theorem take_mn (y : List S33) (m : Int) (h : 1 ≤ m) : y.take (mn m (y.length : Int)).toNat = y.take m.toNat := by
  unfold mn
  by_cases h1 : (y.length : Int) < m
  · rw [if_pos h1, List.take_of_length_le (by omega), List.take_of_length_le (by omega)]
  · rw [if_neg h1]
theorem entries_From_ev (b0 b1 : Int) (l : List S33) (c i most : Int) (hl : l.length < 4398046511104) : Ev (fun k => entries_From.f k b0 b1 l c i most) (fromV b0 b1 l c i most) := by
  unfold entries_From.f fromV
  refine Ev.bind (entries_Check_ev b0 b1 l c hl) ?_
  by_cases h1 : chk b0 b1 l c = true
  · obtain ⟨hm, hn, hr, he, hc⟩ := chk_of h1
    simp only [h1, if_true, true_and, entries_end.f, Option.bind_some]
    rw [w64 _ (by omega) (by omega)]
    by_cases h2 : i ≤ b0
    · refine Ev.eqv (Ev.pos h2 (Ev.now _)) ?_
      rw [if_neg (by omega)]
    · refine Ev.neg h2 ?_
      by_cases h3 : i > b0 + l.length
      · refine Ev.eqv (Ev.pos h3 (Ev.now _)) ?_
        rw [if_neg (by omega)]
      · refine Ev.neg h3 ?_
        by_cases h4 : most < 1
        · refine Ev.eqv (Ev.pos h4 (Ev.now _)) ?_
          rw [if_neg (by omega)]
        · refine Ev.neg h4 ?_
          rw [w64 (i - b0) (by omega) (by omega), w64 (i - b0 - 1) (by omega) (by omega)]
          have hmn : 0 ≤ mn most ((l.drop (i - b0 - 1).toNat).length : Int) ∧ mn most ((l.drop (i - b0 - 1).toNat).length : Int) ≤ ((l.drop (i - b0 - 1).toNat).length : Int) := by unfold mn; split <;> omega
          refine Ev.eqv ?_ (if_pos (show b0 < i ∧ i ≤ b0 + (l.length : Int) ∧ 1 ≤ most by omega)).symm
          refine Ev.pos (by omega) (Ev.pos (by omega) (Ev.bind (Ev.now _) (Ev.pos hmn.1 (Ev.pos hmn.2 ?_))))
          rw [take_mn _ _ (by omega), slicesClone_Entry_eq _ (by simp; omega)]
          exact Ev.bind (Ev.now _) (Ev.now _)
  · simp only [Bool.eq_false_iff.mpr h1, Bool.false_eq_true, if_false, false_and]
    exact Ev.neg (by omega) (Ev.now _)
theorem live8_ev : Ev (fun k => rialtolaw08_live.f k) true := Ev.of (k := 30) (fun k => rialtolaw08_live.mono k) (by kernel_rfl)
theorem fromV_len (b0 b1 : Int) (l : List S33) (c i most : Int) (hl : l.length < 4398046511104) : (fromV b0 b1 l c i most).length < 4398046511104 := by
  unfold fromV; split
  · simp only [List.length_take, List.length_drop]; omega
  · simp

end Go.Proofs.Ytiebeiloooblpaa.Pure
end
section
-- written by myprint.py, a program of this session over the kit's print.py
namespace Go.Proofs.Ytiebeiloooblpaa.E
open Go.Proofs.YtiebeiloooblpaaST
open Go.RowKit Go.Proofs.YtiebeiloooblpaaW.PrintWords Go.Proofs.YtiebeiloooblpaaW.PrintLast Go.Proofs.YtiebeiloooblpaaW.PrintMore
attribute [local go_sem] max2_int min2_int max_two min_two max_three min_three max_four min_four   -- for this text's walks alone
set_option linter.unusedVariables false
set_option linter.unusedSimpArgs false

/-! ### rialtoref08_Accept: function 21 -/
end Go.Proofs.Ytiebeiloooblpaa.E
end
section
namespace Go.Proofs.Ytiebeiloooblpaa.Pure
open Go.RowKit Go.Proofs.Ytiebeiloooblpaa.E Go.Proofs.YtiebeiloooblpaaW.PrintWords Go.Proofs.YtiebeiloooblpaaW.PrintLast Go.Proofs.YtiebeiloooblpaaW.PrintMore Go.Proofs.YtiebeiloooblpaaEV
-- the plain law of layer 8: what is accepted
/-- from entry i on: the log that comes out; none: what is committed would be lost -/
def cut (b0 b1 : Int) (l : List S33) (c p0 : Int) : Nat → List S33 → Option (List S33)
  | _, [] => some l
  | i, e :: es => if p0 + 1 + i ≤ b0 then cut b0 b1 l c p0 (i + 1) es else if (termAt b0 b1 l c (p0 + 1 + i)).2 = true ∧ (termAt b0 b1 l c (p0 + 1 + i)).1 = e.f0 then cut b0 b1 l c p0 (i + 1) es
    else if p0 + 1 + i ≤ c then none else some (l.take (p0 + 1 + i - b0 - 1).toNat ++ e :: es)
def fin (b0 b1 : Int) (c p0 n cm : Int) (out : List S33) : Int × Int × List S33 × Int × Int × Bool × Int :=
  if rows out b1 = true then (if (out.length : Int) > 400 ∨ b0 + (out.length : Int) > 1000000 then (0, 0, [], 0, 0, false, 2) else (b0, b1, out, mx c (mn cm (p0 + n)), mx (p0 + n) b0, true, 0)) else (0, 0, [], 0, 0, false, 80)
def accRest (b0 b1 : Int) (l : List S33) (c p0 : Int) (es : List S33) (cm : Int) : Int × Int × List S33 × Int × Int × Bool × Int :=
  match cut b0 b1 l c p0 0 es with
  | none => (0, 0, [], 0, 0, false, 80)
  | some out => fin b0 b1 c p0 es.length cm out
def acc (b0 b1 : Int) (l : List S33) (c p0 p1 : Int) (es : List S33) (cm : Int) : Int × Int × List S33 × Int × Int × Bool × Int :=
  if chk b0 b1 l c = true then (if isMk p0 p1 = true ∧ (0 ≤ cm ∧ cm ≤ 1000000) ∧ rows es p1 = true then
    (if p0 ≥ b0 ∧ ¬ ((termAt b0 b1 l c p0).2 = true ∧ (termAt b0 b1 l c p0).1 = p1) then (b0, b1, l, c, 0, false, 0) else accRest b0 b1 l c p0 es cm)
    else (0, 0, [], 0, 0, false, 1)) else (0, 0, [], 0, 0, false, 80)
theorem termAt_end {b0 b1 : Int} {l : List S33} {c i : Int} (h : (termAt b0 b1 l c i).2 = true) : b0 ≤ i ∧ i ≤ b0 + l.length := by
  unfold termAt at h
  split at h
  · rename_i g; exact g.2
  · cases h
section
variable (b0 b1 : Int) (l : List S33) (c p0 p1 : Int) (es : List S33) (cm : Int)
theorem entries_j3 (h1 : chk b0 b1 l c = true) (hp : 0 ≤ p0 ∧ p0 ≤ 1000000) (hes : es.length ≤ 4398046510000) (out : List S33) (ho : out.length ≤ 4398046511000) :
    Ev (fun k => entries_Accept.j3 k es cm b0 b1 l c p0 p1 b0 b1 out c) (fin b0 b1 c p0 es.length cm out) := by
  obtain ⟨hm, hn, hr, he, hc⟩ := chk_of h1
  refine Ev.succ ?_
  simp only [entries_Accept.j3, entries_end.f, Option.bind_some]
  unfold fin
  refine Ev.bind (entries_rising_ev out (by omega) b1) ?_
  by_cases h2 : rows out b1 = true
  · rw [w64 (b0 + (out.length : Int)) (by omega) (by omega), w64 (p0 + (es.length : Int)) (by omega) (by omega)]
    refine Ev.eqv (Ev.pos h2 ?_) (if_pos h2).symm
    by_cases h3 : (out.length : Int) > 400
    · exact Ev.eqv (Ev.pos h3 (Ev.now _)) (if_pos (.inl h3)).symm
    · by_cases h4 : b0 + (out.length : Int) > 1000000
      · exact Ev.eqv (Ev.neg h3 (Ev.pos h4 (Ev.now _))) (if_pos (.inr h4)).symm
      · exact Ev.eqv (Ev.neg h3 (Ev.neg h4 (Ev.now _))) (if_neg (by omega)).symm
  · exact Ev.eqv (Ev.neg h2 (Ev.now _)) (if_neg h2).symm
/-- what the rest of the round answers, from entry i on -/
def restV (i : Nat) : Int × Int × List S33 × Int × Int × Bool × Int :=
  match cut b0 b1 l c p0 i (es.drop i) with
  | none => (0, 0, [], 0, 0, false, 80)
  | some out => fin b0 b1 c p0 es.length cm out
theorem entries_l0 (h1 : chk b0 b1 l c = true) (hp : 0 ≤ p0 ∧ p0 ≤ 1000000) (hes : es.length ≤ 4398046510000) (d : Nat) : ∀ i : Nat, i + d = es.length → p0 + i ≤ b0 + l.length ∨ p0 + i < b0 →
    Ev (fun k => entries_Accept.l0 k es cm es (es.length : Int) (i : Int) b0 b1 l c p0 p1 b0 b1 l c) (restV b0 b1 l c p0 es cm i) := by
  obtain ⟨hm, hn, hr, he, hc⟩ := chk_of h1
  induction d with
  | zero =>
    intro i hi hat
    refine Ev.succ ?_
    simp only [entries_Accept.l0]
    refine Ev.neg (by omega) ?_
    unfold restV
    rw [List.drop_eq_nil_of_le (by omega)]
    exact entries_j3 b0 b1 l c p0 p1 es cm h1 hp hes l (by omega)
  | succ d ih =>
    intro i hi hat
    have hdr := drop_one es z33 i (by omega)
    refine Ev.succ ?_
    simp only [entries_Accept.l0]
    rw [w64 (p0 + 1) (by omega) (by omega), w64 (p0 + 1 + (i : Int)) (by omega) (by omega), w64 ((i : Int) + 1) (by omega) (by omega)]
    refine Ev.pos (by omega) (Ev.pos (by omega) (Ev.pos (by omega) ?_))
    unfold restV
    rw [hdr]
    unfold cut
    by_cases h2 : p0 + 1 + (i : Int) ≤ b0
    · rw [if_pos h2]
      exact Ev.pos h2 (ih (i + 1) (by omega) (by omega))
    · rw [if_neg h2]
      refine Ev.neg h2 (Ev.bind (entries_TermAt_ev b0 b1 l c _ (by omega)) ?_)
      have next : Ev (fun k => entries_Accept.l0 k es cm es (es.length : Int) ((i : Int) + 1) b0 b1 l c p0 p1 b0 b1 l c) (restV b0 b1 l c p0 es cm (i + 1)) ∨ ¬ (termAt b0 b1 l c (p0 + 1 + i)).2 = true := by
        by_cases g : (termAt b0 b1 l c (p0 + 1 + i)).2 = true
        · have := termAt_end g
          exact .inl (ih (i + 1) (by omega) (by omega))
        · exact .inr g
      have bad : p0 + 1 + (i : Int) ≤ b0 + l.length + 1 := by omega
      have stop : Ev (fun k => entries_Accept.j2 k es cm (i : Int) (p0 + 1 + (i : Int)) es (es.length : Int) (i : Int) false b0 b1 l c p0 p1 b0 b1 l c)
          (match (if p0 + 1 + (i : Int) ≤ c then none else some (l.take (p0 + 1 + i - b0 - 1).toNat ++ es.getD i z33 :: es.drop (i + 1))) with | none => (0, 0, [], 0, 0, false, 80) | some out => fin b0 b1 c p0 es.length cm out) := by
        refine Ev.succ ?_
        simp only [entries_Accept.j2, Bool.false_eq_true, if_false]
        rw [w64 (p0 + 1 + (i : Int) - b0) (by omega) (by omega), w64 (p0 + 1 + (i : Int) - b0 - 1) (by omega) (by omega)]
        by_cases h3 : p0 + 1 + (i : Int) ≤ c
        · rw [if_pos h3]; exact Ev.pos h3 (Ev.now _)
        · rw [if_neg h3]
          refine Ev.neg h3 (Ev.pos (by omega) (Ev.pos (by omega) (Ev.bind (Ev.now _) (Ev.pos (by omega) (Ev.pos (by omega) (Ev.bind (Ev.now _) ?_))))))
          rw [Int.toNat_natCast, hdr]
          refine Ev.pos (by simp; omega) ?_
          exact entries_j3 b0 b1 l c p0 p1 es cm h1 hp hes _ (by simp; omega)
      by_cases h3 : (termAt b0 b1 l c (p0 + 1 + i)).2 = true
      · refine Ev.pos h3 ?_
        by_cases h4 : (termAt b0 b1 l c (p0 + 1 + i)).1 = (es.getD i z33).f0
        · rw [if_pos ⟨h3, h4⟩, rd33, h4]
          refine Ev.succ ?_
          simp only [entries_Accept.j2, beq_self_eq_true, if_true]
          rw [w64 ((i : Int) + 1) (by omega) (by omega)]
          exact next.resolve_right (fun g => g h3)
        · rw [if_neg (fun g => h4 g.2), rd33, beq_eq_false_iff_ne.mpr h4]
          exact stop
      · rw [if_neg (fun g => h3 g.1)]
        exact Ev.neg h3 stop
theorem accRest_eq : accRest b0 b1 l c p0 es cm = restV b0 b1 l c p0 es cm 0 := by
  unfold accRest restV; rw [List.drop_zero]
theorem entries_Accept_ev (hl : l.length < 4398046511104) (hes : es.length ≤ 4398046510000) : Ev (fun k => entries_Accept.f k b0 b1 l c p0 p1 es cm) (acc b0 b1 l c p0 p1 es cm) := by
  unfold entries_Accept.f acc
  refine Ev.bind (entries_Check_ev b0 b1 l c hl) ?_
  by_cases h1 : chk b0 b1 l c = true
  · obtain ⟨hm, hn, hr, he, hc⟩ := chk_of h1
    simp only [h1, if_true, entries_isMark_eq, entries_within_eq, Option.bind_some]
    by_cases h2 : isMk p0 p1 = true
    · obtain ⟨q0, q1, -, -, -⟩ := isMk_of h2
      simp only [h2, if_true, true_and]
      by_cases h3 : 0 ≤ cm ∧ cm ≤ 1000000
      · refine Ev.pos (show (decide (0 ≤ cm) && decide (cm ≤ 1000000)) = true by simp; omega) ?_
        refine Ev.bind (entries_rising_ev es (by omega) p1) ?_
        by_cases h4 : rows es p1 = true
        · simp only [h4, if_true, h3, and_self]
          rw [slicesClone_Entry_eq l hl]
          refine Ev.bind (Ev.now _) ?_
          have rest : (p0 + 0 ≤ b0 + l.length ∨ p0 + 0 < b0) → Ev (fun k => entries_Accept.j0 k es cm b0 b1 l c p0 p1 b0 b1 l c) (accRest b0 b1 l c p0 es cm) := by
            intro g
            refine Ev.succ ?_
            simp only [entries_Accept.j0]
            rw [accRest_eq]
            exact entries_l0 b0 b1 l c p0 p1 es cm h1 ⟨q0, q1⟩ hes es.length 0 (by omega) (by simpa using g)
          by_cases h5 : p0 ≥ b0
          · refine Ev.pos h5 (Ev.bind (entries_TermAt_ev b0 b1 l c p0 hl) ?_)
            by_cases h6 : (termAt b0 b1 l c p0).2 = true
            · refine Ev.pos h6 ?_
              by_cases h7 : (termAt b0 b1 l c p0).1 = p1
              · have := termAt_end h6
                exact Ev.eqv (Ev.pos h7 (rest (by omega))) (if_neg (fun g => g.2 ⟨h6, h7⟩)).symm
              · exact Ev.eqv (Ev.neg h7 (Ev.now _)) (if_pos ⟨h5, fun g => h7 g.2⟩).symm
            · exact Ev.eqv (Ev.neg h6 (Ev.now _)) (if_pos ⟨h5, fun g => h6 g.1⟩).symm
          · exact Ev.eqv (Ev.neg h5 (rest (by omega))) (if_neg (fun g => h5 g.1)).symm
        · simp only [Bool.eq_false_iff.mpr h4, Bool.false_eq_true, if_false, and_false]
          exact Ev.now _
      · exact Ev.eqv (Ev.neg (show ¬ (decide (0 ≤ cm) && decide (cm ≤ 1000000)) = true by simp; omega) (Ev.now _)) (if_neg (fun g => h3 g.1)).symm
    · simp only [Bool.eq_false_iff.mpr h2, Bool.false_eq_true, if_false, false_and]
      exact Ev.now _
  · simp only [Bool.eq_false_iff.mpr h1, Bool.false_eq_true, if_false]
    exact Ev.neg (by omega) (Ev.now _)
end
theorem acc_len (b0 b1 : Int) (l : List S33) (c p0 p1 : Int) (es : List S33) (cm : Int) (hl : l.length < 4398046511104) : (acc b0 b1 l c p0 p1 es cm).2.2.1.length < 4398046511104 := by
  unfold acc
  split
  · split
    · split
      · exact hl
      · unfold accRest
        split
        · simp
        · unfold fin
          split
          · split
            · simp
            · rename_i h; dsimp only; omega
          · simp
    · simp
  · simp

end Go.Proofs.Ytiebeiloooblpaa.Pure
end
section
namespace Go.Proofs.Ytiebeiloooblpaa.Pure
open Go.RowKit Go.Proofs.Ytiebeiloooblpaa.E Go.Proofs.YtiebeiloooblpaaW.PrintWords Go.Proofs.YtiebeiloooblpaaW.PrintLast Go.Proofs.YtiebeiloooblpaaW.PrintMore Go.Proofs.YtiebeiloooblpaaEV
-- the plain law of layer 8: what stays, and what is sent again
theorem cut_spec (b0 b1 : Int) (l : List S33) (c p0 : Int) (h1 : chk b0 b1 l c = true) : ∀ (es : List S33) (i : Nat) (out : List S33), (p0 + i ≤ b0 + l.length ∨ p0 + i < b0) → cut b0 b1 l c p0 i es = some out →
    (∀ q : Nat, (q : Int) < p0 + i - b0 → out[q]? = l[q]?) ∧ (∀ q : Nat, (q : Int) < c - b0 → out[q]? = l[q]?) ∧
    (∀ (j : Nat) (e : S33), es[j]? = some e → b0 < p0 + 1 + i + j → ∃ x, out[(p0 + i + j - b0).toNat]? = some x ∧ x.f0 = e.f0) ∧ c ≤ b0 + out.length ∧ (p0 + i ≤ b0 + out.length ∨ p0 + i < b0) := by
  obtain ⟨hm, hn, hr, he, hc⟩ := chk_of h1
  intro es
  induction es with
  | nil =>
    intro i out hi h
    simp only [cut, Option.some.injEq] at h
    subst h
    exact ⟨fun _ _ => rfl, fun _ _ => rfl, fun j e hj => by simp at hj, hc.2, hi⟩
  | cons e es ih =>
    intro i out hi h
    unfold cut at h
    by_cases h2 : p0 + 1 + (i : Int) ≤ b0
    · rw [if_pos h2] at h
      obtain ⟨A, D, C, L, I⟩ := ih (i + 1) out (by omega) h
      refine ⟨fun q hq => A q (by omega), D, fun j x hj hb => ?_, L, by omega⟩
      cases j with
      | zero => omega
      | succ j =>
        obtain ⟨y, hy⟩ := C j x (by simpa using hj) (by omega)
        exact ⟨y, by rw [← hy.1]; congr 1; omega, hy.2⟩
    · rw [if_neg h2] at h
      by_cases h3 : (termAt b0 b1 l c (p0 + 1 + i)).2 = true ∧ (termAt b0 b1 l c (p0 + 1 + i)).1 = e.f0
      · rw [if_pos h3] at h
        have hte := termAt_end h3.1
        obtain ⟨A, D, C, L, I⟩ := ih (i + 1) out (by omega) h
        refine ⟨fun q hq => A q (by omega), D, fun j x hj hb => ?_, L, by omega⟩
        cases j with
        | zero =>
          obtain rfl : e = x := by simpa using hj
          have hlt : (p0 + (i : Int) - b0).toNat < l.length := by omega
          have hA := A (p0 + (i : Int) - b0).toNat (by omega)
          have h4 := h3.2
          unfold termAt at h4
          rw [if_pos ⟨h1, by omega, by omega⟩, if_neg (by omega), show (p0 + 1 + (i : Int) - b0 - 1).toNat = (p0 + (i : Int) - b0).toNat by omega] at h4
          refine ⟨l[(p0 + (i : Int) - b0).toNat], ?_, by simpa [List.getD, hlt] using h4⟩
          rw [show (p0 + (i : Int) + ((0 : Nat) : Int) - b0).toNat = (p0 + (i : Int) - b0).toNat by omega, hA, List.getElem?_eq_getElem hlt]
        | succ j =>
          obtain ⟨y, hy⟩ := C j x (by simpa using hj) (by omega)
          exact ⟨y, by rw [← hy.1]; congr 1; omega, hy.2⟩
      · rw [if_neg h3] at h
        by_cases h4 : p0 + 1 + (i : Int) ≤ c
        · rw [if_pos h4] at h; cases h
        · rw [if_neg h4] at h
          cases h
          have hl : (l.take (p0 + 1 + (i : Int) - b0 - 1).toNat).length = (p0 + (i : Int) - b0).toNat := by rw [List.length_take]; omega
          have A : ∀ q : Nat, (q : Int) < p0 + i - b0 → (l.take (p0 + 1 + (i : Int) - b0 - 1).toNat ++ e :: es)[q]? = l[q]? := fun q hq => by
            rw [List.getElem?_append_left (by omega), List.getElem?_take_of_lt (by omega)]
          refine ⟨A, fun q hq => A q (by omega), fun j x hj hb => ⟨x, ?_, rfl⟩, by simp only [List.length_append, hl, List.length_cons]; omega, by simp only [List.length_append, hl, List.length_cons]; omega⟩
          rw [List.getElem?_append_right (by omega), hl, show (p0 + (i : Int) + (j : Int) - b0).toNat - (p0 + (i : Int) - b0).toNat = j by omega]
          exact hj
theorem mx_le {a b : Int} : a ≤ mx a b ∧ b ≤ mx a b := by unfold mx; split <;> omega
theorem mx_or (a b : Int) : mx a b = a ∨ mx a b = b := by unfold mx; split <;> simp
theorem mn_le {a b : Int} : mn a b ≤ a ∧ mn a b ≤ b := by unfold mn; split <;> omega
/-- what a log that was accepted is -/
theorem acc_ok {b0 b1 : Int} {l : List S33} {c p0 p1 : Int} {es : List S33} {cm : Int} (h : (acc b0 b1 l c p0 p1 es cm).2.2.2.2.2.2 = 0) :
    acc b0 b1 l c p0 p1 es cm = (b0, b1, l, c, 0, false, 0) ∨ ∃ out, chk b0 b1 l c = true ∧ isMk p0 p1 = true ∧ (0 ≤ cm ∧ cm ≤ 1000000) ∧ rows es p1 = true ∧ (p0 ≥ b0 → (termAt b0 b1 l c p0).2 = true ∧ (termAt b0 b1 l c p0).1 = p1) ∧
      cut b0 b1 l c p0 0 es = some out ∧ rows out b1 = true ∧ out.length ≤ 400 ∧ b0 + (out.length : Int) ≤ 1000000 ∧ acc b0 b1 l c p0 p1 es cm = (b0, b1, out, mx c (mn cm (p0 + es.length)), mx (p0 + es.length) b0, true, 0) := by
  by_cases h1 : chk b0 b1 l c = true
  · by_cases h2 : isMk p0 p1 = true ∧ (0 ≤ cm ∧ cm ≤ 1000000) ∧ rows es p1 = true
    · by_cases h3 : p0 ≥ b0 ∧ ¬ ((termAt b0 b1 l c p0).2 = true ∧ (termAt b0 b1 l c p0).1 = p1)
      · left; unfold acc; rw [if_pos h1, if_pos h2, if_pos h3]
      · right
        have ha : acc b0 b1 l c p0 p1 es cm = accRest b0 b1 l c p0 es cm := by unfold acc; rw [if_pos h1, if_pos h2, if_neg h3]
        rw [ha] at h ⊢
        unfold accRest at h ⊢
        cases hc : cut b0 b1 l c p0 0 es with
        | none => rw [hc] at h; simp at h
        | some out =>
          rw [hc] at h
          simp only [fin] at h ⊢
          by_cases h4 : rows out b1 = true
          · rw [if_pos h4] at h ⊢
            by_cases h5 : (out.length : Int) > 400 ∨ b0 + (out.length : Int) > 1000000
            · rw [if_pos h5] at h; simp at h
            · rw [if_neg h5]
              exact ⟨out, h1, h2.1, h2.2.1, h2.2.2, fun g => Classical.not_not.1 (fun g' => h3 ⟨g, g'⟩), rfl, h4, by omega, by omega, rfl⟩
          · rw [if_neg h4] at h; simp at h
    · unfold acc at h; rw [if_pos h1, if_neg h2] at h; simp at h
  · unfold acc at h; rw [if_neg h1] at h; simp at h
theorem acc_chk {b0 b1 : Int} {l : List S33} {c p0 : Int} {es : List S33} {cm : Int} {out : List S33} (h1 : chk b0 b1 l c = true) (h2 : p0 ≥ b0 → (termAt b0 b1 l c p0).2 = true) (hc : cut b0 b1 l c p0 0 es = some out) (hr : rows out b1 = true) (hn : out.length ≤ 400) (he : b0 + (out.length : Int) ≤ 1000000) :
    chk b0 b1 out (mx c (mn cm (p0 + es.length))) = true := by
  obtain ⟨-, hn', hr', he', hcc⟩ := chk_of h1
  have h3 : p0 + ((0 : Nat) : Int) ≤ b0 + l.length ∨ p0 + ((0 : Nat) : Int) < b0 := by
    by_cases g : p0 ≥ b0
    · have := termAt_end (h2 g); omega
    · omega
  obtain ⟨A, D, C, L, I⟩ := cut_spec b0 b1 l c p0 h1 es 0 out h3 hc
  have hmk : isMk b0 b1 = true := by simp only [chk, Bool.and_eq_true] at h1; exact h1.1
  have a1 := @mx_le c (mn cm (p0 + es.length))
  have a2 := @mn_le cm (p0 + es.length)
  simp only [chk, hmk, hr, Bool.true_and, Bool.and_eq_true, decide_eq_true_eq]
  refine ⟨hn, he, by omega, ?_⟩
  rcases mx_or c (mn cm (p0 + es.length)) with e | e
  · rw [e]; exact L
  · rw [e]
    by_cases g : p0 + (es.length : Int) ≤ b0
    · omega
    · by_cases h0 : es.length = 0
      · omega
      · obtain ⟨x, hx, -⟩ := C (es.length - 1) es[es.length - 1] (List.getElem?_eq_getElem (by omega)) (by omega)
        have := (List.getElem?_eq_some_iff.1 hx).1
        omega
end Go.Proofs.Ytiebeiloooblpaa.Pure
end
section
namespace Go.Proofs.Ytiebeiloooblpaa.Pure
open Go.RowKit Go.Proofs.Ytiebeiloooblpaa.E Go.Proofs.YtiebeiloooblpaaW.PrintWords Go.Proofs.YtiebeiloooblpaaW.PrintLast Go.Proofs.YtiebeiloooblpaaW.PrintMore Go.Proofs.YtiebeiloooblpaaEV
theorem keep_from {b0 b1 : Int} {l out : List S33} {c c' : Int} (h1 : chk b0 b1 l c = true) (h2 : chk b0 b1 out c' = true) (hc : c ≤ b0 + out.length) (D : ∀ q : Nat, (q : Int) < c - b0 → out[q]? = l[q]?) : fromV b0 b1 out c' (b0 + 1) (c - b0) = fromV b0 b1 l c (b0 + 1) (c - b0) := by
  obtain ⟨-, -, -, -, hcc⟩ := chk_of h1
  unfold fromV
  by_cases h : 1 ≤ c - b0
  · rw [if_pos ⟨h2, by omega, by omega, h⟩, if_pos ⟨h1, by omega, by omega, h⟩, show (b0 + 1 - b0 - 1).toNat = 0 by omega, List.drop_zero, List.drop_zero]
    apply List.ext_getElem?
    intro q
    by_cases hq : q < (c - b0).toNat
    · rw [List.getElem?_take_of_lt hq, List.getElem?_take_of_lt hq]; exact D q (by omega)
    · rw [List.getElem?_eq_none (by rw [List.length_take]; omega), List.getElem?_eq_none (by rw [List.length_take]; omega)]
  · rw [if_neg (fun g => h g.2.2.2), if_neg (fun g => h g.2.2.2)]
theorem EntriesKeep : rialtolaw08_EntriesKeep.Pure := by
  intro b0 b1 l c p0 p1 es cm hb0 hb1 hl hc hp0 hp1 hes hcm
  have hn : l.length < 4398046511104 := by have := hl.1; omega
  have hm : es.length ≤ 4398046510000 := by have := hes.1; omega
  have hlen := acc_len b0 b1 l c p0 p1 es cm hn
  refine Ev.rounds ?_
  unfold rialtolaw08_EntriesKeep.f
  refine Ev.bind (entries_Check_ev b0 b1 l c hn) ?_
  by_cases h1 : chk b0 b1 l c = true
  · obtain ⟨hmk, hn', hr', he', hcc⟩ := chk_of h1
    simp only [h1, if_true]
    refine Ev.bind (entries_Accept_ev b0 b1 l c p0 p1 es cm hn hm) ?_
    by_cases h : (acc b0 b1 l c p0 p1 es cm).2.2.2.2.2.2 = 0
    · refine Ev.pos h ?_
      have key : ∃ out c' t ok, acc b0 b1 l c p0 p1 es cm = (b0, b1, out, c', t, ok, 0) ∧ chk b0 b1 out c' = true ∧ c ≤ c' ∧ c ≤ b0 + out.length ∧ ∀ q : Nat, (q : Int) < c - b0 → out[q]? = l[q]? := by
        rcases acc_ok h with e | ⟨out, h1, hp, hcm, hes, h2, hc, hr, hn, he, e⟩
        · exact ⟨l, c, _, _, e, h1, by omega, hcc.2, fun _ _ => rfl⟩
        · have h3 : p0 + ((0 : Nat) : Int) ≤ b0 + l.length ∨ p0 + ((0 : Nat) : Int) < b0 := by
            by_cases g : p0 ≥ b0
            · have := termAt_end (h2 g).1; omega
            · omega
          obtain ⟨A, D, C, L, I⟩ := cut_spec b0 b1 l c p0 h1 es 0 out h3 hc
          exact ⟨out, _, _, _, e, acc_chk h1 (fun g => (h2 g).1) hc hr hn he, mx_le.1, L, D⟩
      obtain ⟨out, c', t, ok, e, hk, hcc', hL, hD⟩ := key
      rw [e] at hlen ⊢
      have hlo : out.length < 4398046511104 := hlen
      refine Ev.bind (entries_Check_ev b0 b1 out c' hlo) ?_
      simp only [hk, if_true]
      refine Ev.neg (by omega) (Ev.succ ?_)
      simp only [rialtolaw08_EntriesKeep.j0]
      refine Ev.neg (by simp) ?_
      rw [w64 (b0 + 1) (by omega) (by omega), w64 (c - b0) (by omega) (by omega)]
      have hf := keep_from h1 hk hL hD
      refine Ev.bind (entries_From_ev b0 b1 out c' _ _ hlo) (Ev.bind (entries_From_ev b0 b1 l c _ _ hn) ?_)
      rw [hf]
      exact Ev.bind (ref08_SameEntries_ev _ (fromV_len _ _ _ _ _ _ hn)) (Ev.pos rfl (Ev.bind live8_ev (Ev.now _)))
    · exact Ev.neg h (Ev.bind live8_ev (Ev.now _))
  · simp only [Bool.eq_false_iff.mpr h1, Bool.false_eq_true, if_false]
    exact Ev.neg (by omega) (Ev.bind live8_ev (Ev.now _))

end Go.Proofs.Ytiebeiloooblpaa.Pure
end
section
/- Helper lemmas of this session: an argument that reads as data, opened to plain values, whatever its type's depth; and what its size says. -/
namespace Go.Proofs.YtiebeiloooblpaaO
open Go.RowKit Go.Proofs.YtiebeiloooblpaaW.PrintWords Go.Deep

/-- What a bound on a reading says of its slices' lengths (S) and its strings' (T), at every depth. -/
structure Sizes (P : Program) (Bd : (H : Type) → TypeId → DataW H → Prop) (S : TypeId → Nat → Prop) (T : Nat → Prop) : Prop where
  slice : ∀ (H : Type) (t e : TypeId) (es sp : List (DataW H)), P.underlying t = some (.slice e) → Bd H t (.slice es sp) → S e es.length ∧ ∀ d ∈ es, Bd H e d
  zero : ∀ e, S e 0
  string : ∀ (H : Type) (t : TypeId) (bs : List UInt8), Bd H t (.lit (.string bs)) → T bs.length
  struct : ∀ (H : Type) (t : TypeId) (fs : Array Field) (ps : List (DataW H)), P.underlying t = some (.struct fs) → Bd H t (.agg ps) → ∀ (i : Nat) (f : Field) (p : DataW H), fs[i]? = some f → ps[i]? = some p → Bd H f.type p

/-- Values of type t read as d's; G: what is known of them. -/
structure Opens {α : Type} (P : Program) (Bd : (H : Type) → TypeId → DataW H → Prop) (t : TypeId) (d : Kd α) (G : α → Prop) : Prop where
  go : ∀ (H : Type) (enc : TypeId × Value → H) (w : World) (base : Nat) (spare : Nat → Bool) (held : Bool) (fuel : Nat) (cs : List Value) (x : DataW H × List MemPlace),
    DataW.trod enc P w base spare held fuel t cs = some x → Bd H t x.1 → ∃ v, d.K w v cs ∧ G v

theorem add_add' (a : Addr) (i j : Nat) : (a.add i).add j = a.add (i + j) := by
  unfold Addr.add
  by_cases h1 : i = 0 <;> by_cases h2 : j = 0 <;> simp [h1, h2, Nat.add_assoc]
theorem listOf {α : Type} {Q : Nat → α → Prop} : ∀ n, (∀ i, i < n → ∃ v, Q i v) → ∃ xs : List α, xs.length = n ∧ ∀ i p, xs[i]? = some p → Q i p
  | 0, _ => ⟨[], rfl, fun i p h => by simp at h⟩
  | n + 1, h => by
    obtain ⟨xs, hl, hx⟩ := listOf n (fun i hi => h i (by omega))
    obtain ⟨v, hv⟩ := h n (Nat.lt_succ_self n)
    refine ⟨xs ++ [v], by simp [hl], fun i p hp => ?_⟩
    rcases Nat.lt_or_ge i xs.length with hi | hi
    · rw [List.getElem?_append_left hi] at hp
      exact hx i p hp
    · have hlt := (List.getElem?_eq_some_iff.1 hp).1
      rw [List.length_append, List.length_singleton] at hlt
      obtain rfl : i = n := by omega
      rw [List.getElem?_append_right hi] at hp
      simp [hl] at hp
      subst hp
      exact hv

section
variable {P : Program} {Bd : (H : Type) → TypeId → DataW H → Prop} {S : TypeId → Nat → Prop} {T : Nat → Prop}

theorem Opens.int {t : TypeId} {k : IntKind} (ht : P.underlying t = some (.int k)) : Opens P Bd t (Kd.int k) (fun n => (Lit.int k n).wf = true) where
  go H enc w base spare held fuel cs x h hb := by
    obtain ⟨n, rfl, _, hw⟩ := DataW.trod_int ht h
    exact ⟨n, rfl, hw⟩
theorem Opens.string (Z : Sizes P Bd S T) {t : TypeId} (ht : P.underlying t = some .string) : Opens P Bd t Kd.string (fun s => T s.size) where
  go H enc w base spare held fuel cs x h hb := by
    obtain ⟨s, rfl, rfl, _⟩ := DataW.trod_string ht h
    have h1 := Z.string H t _ hb
    rw [Array.length_toList] at h1
    exact ⟨s, rfl, h1⟩
theorem Opens.iso {α β : Type} {d : Kd α} {G : α → Prop} {t : TypeId} (f : β → α) (g : α → β) (hfg : ∀ y, f (g y) = y) (O : Opens P Bd t d G) : Opens P Bd t (Kd.iso d f) (fun x => G (f x)) where
  go H enc w base spare held fuel cs x h hb := by
    obtain ⟨v, hK, hG⟩ := O.go H enc w base spare held fuel cs x h hb
    exact ⟨g v, by show d.K w (f (g v)) cs; rw [hfg]; exact hK, by show G (f (g v)); rw [hfg]; exact hG⟩
theorem Opens.bool {t : TypeId} (ht : P.underlying t = some .bool) : Opens P Bd t Kd.bool (fun _ => True) where
  go H enc w base spare held fuel cs x h hb := by
    cases fuel with
    | zero => simp [DataW.trod] at h
    | succ n =>
      unfold DataW.trod at h
      rw [ht] at h
      split at h <;> first | exact ⟨_, rfl, trivial⟩ | simp_all
theorem Opens.slice (Z : Sizes P Bd S T) {α : Type} {d : Kd α} {G : α → Prop} {t e : TypeId} {S' : Nat → Prop} (hS : ∀ n, S e n → S' n) (ht : P.underlying t = some (.slice e)) (hs : P.cellsOf e = d.sz) (O : Opens P Bd e d G) :
    Opens P Bd t (Kd.slice e d) (fun xs => S' xs.length ∧ ∀ x ∈ xs, G x) where
  go H enc w base spare held fuel cs x h hb := by
    rcases open_slice ht h with ⟨rfl, rfl⟩ | ⟨a, len, cap, m, n, D, Pl, rfl, _, hl, hm, hmm, rfl, hi⟩
    · exact ⟨[], ⟨none, 0, rfl, Nat.le_refl _, Kd.C_nil d w⟩, hS _ (Z.zero e), fun x h => by cases h⟩
    · have hlm : len ≤ m := by rw [hmm]; split <;> omega
      obtain ⟨h1, h2⟩ := Z.slice H t e _ _ ht hb
      rw [List.length_map, List.length_range] at h1
      replace h1 := hS _ h1
      have hel : ∀ i, i < len → ∃ v cs', d.K w v cs' ∧ G v ∧ (∀ j u, cs'[j]? = some u → w.cell? (a.add (i * d.sz + j)) = some u) := by
        intro i hil
        obtain ⟨cs', hc, htr⟩ := hi i (by omega)
        rw [hs] at hc
        obtain ⟨_, hcl, hat⟩ := World.cells?_some hc
        obtain ⟨v, hK, hG⟩ := O.go H enc w base spare held n cs' _ htr (h2 _ (List.mem_map.2 ⟨i, List.mem_range.2 hil, rfl⟩))
        refine ⟨v, cs', hK, hG, fun j u hu => ?_⟩
        have hj : j < d.sz := by rw [← hcl]; exact (List.getElem?_eq_some_iff.1 hu).1
        rw [← add_add', hat j hj, hu]
      obtain ⟨xs, hxl, hx⟩ := listOf len hel
      refine ⟨xs, ⟨some a, cap, by rw [hxl], by rw [hxl]; exact hl, ⟨rfl, by rw [hxl]; simp only [maxLen] at hm; omega, fun hp => ⟨a, rfl, fun j p hj => ?_⟩⟩⟩, by rw [hxl]; exact h1, fun x hxm => ?_⟩
      · obtain ⟨cs', hK, _, hc⟩ := hx j p hj
        exact ⟨cs', d.K_len hK, hK, hc⟩
      · obtain ⟨i, hi⟩ := List.mem_iff_getElem?.1 hxm
        obtain ⟨_, _, hG, _⟩ := hx i x hi
        exact hG

/-- The fields of a struct, from one on. -/
structure OpensFs {α : Type} (P : Program) (Bd : (H : Type) → TypeId → DataW H → Prop) (fs : List Field) (off : Nat) (d : Kd α) (G : α → Prop) : Prop where
  go : ∀ (H : Type) (enc : TypeId × Value → H) (w : World) (base : Nat) (spare : Nat → Bool) (held : Bool) (n : Nat) (cs : List Value) (xs : List (DataW H × List MemPlace)),
    xs.length = fs.length → (∀ (i : Nat) (f : Field), fs[i]? = some f → DataW.trod enc P w base spare held n f.type ((cs.drop f.offset).take (P.cellsOf f.type)) = xs[i]?) → cs.length = off + d.sz →
    (∀ (i : Nat) (f : Field) (p : DataW H × List MemPlace), fs[i]? = some f → xs[i]? = some p → Bd H f.type p.1) → ∃ v, d.K w v (cs.drop off) ∧ G v
theorem OpensFs.one {α : Type} {d : Kd α} {G : α → Prop} {f : Field} {off : Nat} (ho : f.offset = off) (hs : P.cellsOf f.type = d.sz) (O : Opens P Bd f.type d G) : OpensFs P Bd [f] off d G where
  go H enc w base spare held n cs xs hl ht hc hb := by
    obtain ⟨x, rfl⟩ : ∃ x, xs = [x] := List.length_eq_one_iff.1 hl
    have h1 := ht 0 f rfl
    have h2 := hb 0 f x rfl rfl
    rw [ho, hs, List.take_of_length_le (by rw [List.length_drop]; omega)] at h1
    exact O.go H enc w base spare held n _ x (by simpa using h1) h2
theorem OpensFs.cons {α β : Type} {a : Kd α} {b : Kd β} {G : α → Prop} {G' : β → Prop} {f : Field} {fs : List Field} {off : Nat} (ho : f.offset = off) (hs : P.cellsOf f.type = a.sz) (O : Opens P Bd f.type a G)
    (O' : OpensFs P Bd fs (off + a.sz) b G') : OpensFs P Bd (f :: fs) off (Kd.pair a b) (fun v => G v.1 ∧ G' v.2) where
  go H enc w base spare held n cs xs hl ht hc hb := by
    obtain ⟨x, xs, rfl⟩ : ∃ x r, xs = x :: r := by
      cases xs with
      | nil => simp at hl
      | cons x r => exact ⟨x, r, rfl⟩
    have h1 := ht 0 f rfl
    have h2 := hb 0 f x rfl rfl
    rw [ho, hs] at h1
    have hsz : (Kd.pair a b).sz = a.sz + b.sz := rfl
    obtain ⟨v, hv, hg⟩ := O.go H enc w base spare held n _ x (by simpa using h1) h2
    obtain ⟨u, hu, hg'⟩ := O'.go H enc w base spare held n cs xs (by simpa using hl) (fun i f' hf => by simpa using ht (i + 1) f' (by simpa using hf)) (by rw [hc, hsz]; omega) (fun i f' p hf hp => hb (i + 1) f' p (by simpa using hf) (by simpa using hp))
    refine ⟨(v, u), ⟨_, _, ?_, hv, hu⟩, hg, hg'⟩
    rw [← List.drop_drop, List.take_append_drop]
theorem Opens.struct (Z : Sizes P Bd S T) {α : Type} {d : Kd α} {G : α → Prop} {t : TypeId} {fs : Array Field} (ht : P.underlying t = some (.struct fs)) (hs : P.cellsOf t = d.sz) (O : OpensFs P Bd fs.toList 0 d G) : Opens P Bd t d G where
  go H enc w base spare held fuel cs x h hb := by
    obtain ⟨xs, n, _, rfl, hlen, hxl, hf⟩ := DataW.trod_struct ht h
    have h1 := O.go H enc w base spare held n cs xs (by simpa using hxl) (fun i f hi => hf i f (by simpa using hi)) (by rw [hlen, hs]; omega) (fun i f p hi hp => Z.struct H t fs _ ht hb i f p.1 (by simpa using hi) (by rw [List.getElem?_map, hp]; rfl))
    simpa using h1

end

/-- By the second form's bulk. -/
def BdBulk (H : Type) (_ : TypeId) (d : DataW H) : Prop := Go.Proofs.Ytiebeiloooblpaa.Rows.uptoBulk d ≤ 1048576
theorem bulk_one_le {H : Type} (d : DataW H) : 1 ≤ Go.Proofs.Ytiebeiloooblpaa.Rows.uptoBulk d := by
  cases d with
  | lit l => cases l <;> simp [Go.Proofs.Ytiebeiloooblpaa.Rows.uptoBulk]
  | nil => simp [Go.Proofs.Ytiebeiloooblpaa.Rows.uptoBulk]
  | ptr d => simp [Go.Proofs.Ytiebeiloooblpaa.Rows.uptoBulk]
  | slice elems spare => simp [Go.Proofs.Ytiebeiloooblpaa.Rows.uptoBulk]
  | agg parts => simp [Go.Proofs.Ytiebeiloooblpaa.Rows.uptoBulk]
  | iface t d => simp [Go.Proofs.Ytiebeiloooblpaa.Rows.uptoBulk]
  | map entries => simp [Go.Proofs.Ytiebeiloooblpaa.Rows.uptoBulk]
  | held h => simp [Go.Proofs.Ytiebeiloooblpaa.Rows.uptoBulk]
theorem bulk_part_le {H : Type} {d : DataW H} {l : List (DataW H)} (h : d ∈ l) : Go.Proofs.Ytiebeiloooblpaa.Rows.uptoBulk d ≤ Go.Proofs.Ytiebeiloooblpaa.Rows.uptoBulkAll l := by
  induction l with
  | nil => cases h
  | cons x r ih =>
    simp only [Go.Proofs.Ytiebeiloooblpaa.Rows.uptoBulkAll]
    cases List.mem_cons.1 h with
    | inl e => subst e; omega
    | inr e => have := ih e; omega
theorem bulk_length_le {H : Type} (l : List (DataW H)) : l.length ≤ Go.Proofs.Ytiebeiloooblpaa.Rows.uptoBulkAll l := by
  induction l with
  | nil => simp [Go.Proofs.Ytiebeiloooblpaa.Rows.uptoBulkAll]
  | cons x r ih => have := bulk_one_le x; simp only [Go.Proofs.Ytiebeiloooblpaa.Rows.uptoBulkAll, List.length_cons]; omega
theorem sizesBulk (P : Program) : Sizes P BdBulk (fun _ n => n ≤ 1048576) (fun n => n ≤ 1048576) where
  slice H t e es sp _ h := by
    unfold BdBulk at h
    rw [Go.Proofs.Ytiebeiloooblpaa.Rows.uptoBulk] at h
    have h1 := bulk_length_le es
    exact ⟨by omega, fun d hd => by have := bulk_part_le hd; unfold BdBulk; omega⟩
  zero e := by simp
  string H t bs h := by
    unfold BdBulk at h
    rw [Go.Proofs.Ytiebeiloooblpaa.Rows.uptoBulk] at h
    omega
  struct H t fs ps _ h i f p _ hp := by
    unfold BdBulk at h ⊢
    rw [Go.Proofs.Ytiebeiloooblpaa.Rows.uptoBulk] at h
    have := bulk_part_le (List.mem_of_getElem? hp)
    omega
theorem bulk_bound {H : Type} {l : List (DataW H)} (hk : Go.Proofs.Ytiebeiloooblpaa.Rows.uptoSmall H l = true) : Go.Proofs.Ytiebeiloooblpaa.Rows.uptoBulkAll l ≤ 1048576 := by
  unfold Go.Proofs.Ytiebeiloooblpaa.Rows.uptoSmall at hk
  exact of_decide_eq_true hk
theorem bulk_arg {H : Type} {l : List (DataW H)} (hk : Go.Proofs.Ytiebeiloooblpaa.Rows.uptoSmall H l = true) {d : DataW H} (h : d ∈ l) (t : TypeId) : BdBulk H t d := by
  have h1 := bulk_bound hk
  have h2 := bulk_part_le h
  unfold BdBulk
  omega
end Go.Proofs.YtiebeiloooblpaaO
end
