/- Part 6 of the proof of EntriesAgain: the texts that it needs, put together by a program of this session. -/
import Derived.ChangeArms
import Derived.Deep.Slices
import Derived.ProofKit
import Derived.RowKit
import Derived.Test.YtiebeiloooblpaaRows
import Derived.Test.YtiebeiloooblpaaMEntriesAgain5
section
-- written by myprint.py, a program of this session over the kit's print.py
namespace Go.Proofs.Ytiebeiloooblpaa.E
open Go.RowKit Go.Proofs.YtiebeiloooblpaaW.PrintWords Go.Proofs.YtiebeiloooblpaaW.PrintLast Go.Proofs.YtiebeiloooblpaaW.PrintMore
attribute [local go_sem] max2_int min2_int max_two min_two max_three min_three max_four min_four   -- for this text's walks alone
set_option linter.unusedVariables false
set_option linter.unusedSimpArgs false

/-! ### rialtolaw08_EntriesAgain: function 8 -/
def rialtolaw08_EntriesAgain.f (k : Nat) (a0_0 : Int) (a0_1 : Int) (l0_2 : List (S33)) (a0_3 : Int) (a1_0 : Int) (a1_1 : Int) (l1_2 : List (S33)) (a1_3 : Int) : Option (Bool) := (entries_Accept.f k a0_0 a0_1 l0_2 a0_3 a1_0 a1_1 l1_2 a1_3).bind fun bt584 => (if bt584.2.2.2.2.2.2 = 0 then ((entries_Accept.f k bt584.1 bt584.2.1 bt584.2.2.1 bt584.2.2.2.1 a1_0 a1_1 l1_2 a1_3).bind fun bt594 => (if bt594.2.2.2.2.2.2 = 0 then (if bt584.2.2.2.2.1 = bt594.2.2.2.2.1 then (if (bt584.2.2.2.2.2.1 == bt594.2.2.2.2.2.1) = true then ((rialtoref08_Same.f k bt584.1 bt584.2.1 bt584.2.2.1 bt584.2.2.2.1 bt594.1 bt594.2.1 bt594.2.2.1 bt594.2.2.2.1).bind fun t604 => (if t604 = true then ((rialtolaw08_live.f k).bind fun t605 => (some t605)) else (some false))) else (some false)) else (some false)) else (some false))) else ((rialtolaw08_live.f k).bind fun t606 => (some t606)))
set_option maxHeartbeats 8000000 in
set_option maxRecDepth 100000 in
theorem rialtolaw08_EntriesAgain.calls (k : Nat) (a0_0 : Int) (a0_1 : Int) (A0_2 : Option Addr) (c0_2 : Nat) (l0_2 : List (S33)) (a0_3 : Int) (a1_0 : Int) (a1_1 : Int) (A1_2 : Option Addr) (c1_2 : Nat) (l1_2 : List (S33)) (a1_3 : Int) (r : Bool) (w : World) (hr0_2 : Kd.C k33 w A0_2 l0_2.length l0_2) (hc0_2 : l0_2.length ≤ c0_2) (hr1_2 : Kd.C k33 w A1_2 l1_2.length l1_2) (hc1_2 : l1_2.length ≤ c1_2) (h : rialtolaw08_EntriesAgain.f k a0_0 a0_1 l0_2 a0_3 a1_0 a1_1 l1_2 a1_3 = some r) :
    Calls Try.prog 8 #[.agg #[.int .i64 a0_0, .int .i64 a0_1, .slice A0_2 l0_2.length c0_2, .int .i64 a0_3], .agg #[.int .i64 a1_0, .int .i64 a1_1, .slice A1_2 l1_2.length c1_2, .int .i64 a1_3]] w fun e w' => e = .returned (.bool r) ∧ Below w.heap.size w w' := by
  have hu26 := Try.underlying26
  have hu41 := Try.underlying41
  have hu23 := Try.underlying23
  have HR0_2 := Aside0.mk hr0_2
  have HC0_2 := Aside0.mk hc0_2
  clear hr0_2 hc0_2
  have HR1_2 := Aside0.mk hr1_2
  have HC1_2 := Aside0.mk hc1_2
  clear hr1_2 hc1_2
  have HB := Aside0.mk (Below.refl w.heap.size w)
  have H : ((entries_Accept.f k a0_0 a0_1 l0_2 a0_3 a1_0 a1_1 l1_2 a1_3).bind fun bt584 => (if bt584.2.2.2.2.2.2 = 0 then ((entries_Accept.f k bt584.1 bt584.2.1 bt584.2.2.1 bt584.2.2.2.1 a1_0 a1_1 l1_2 a1_3).bind fun bt594 => (if bt594.2.2.2.2.2.2 = 0 then (if bt584.2.2.2.2.1 = bt594.2.2.2.2.1 then (if (bt584.2.2.2.2.2.1 == bt594.2.2.2.2.2.1) = true then ((rialtoref08_Same.f k bt584.1 bt584.2.1 bt584.2.2.1 bt584.2.2.2.1 bt594.1 bt594.2.1 bt594.2.2.1 bt594.2.2.2.1).bind fun t604 => (if t604 = true then ((rialtolaw08_live.f k).bind fun t605 => (some t605)) else (some false))) else (some false)) else (some false)) else (some false))) else ((rialtolaw08_live.f k).bind fun t606 => (some t606)))) = some r := h
  clear h
  replace H := Option.bind_eq_some_iff.mp H
  obtain ⟨⟨t584, t585, t586, t589, t590, t591, t592⟩, A30, H⟩ := H
  replace H : (if t592 = 0 then ((entries_Accept.f k t584 t585 t586 t589 a1_0 a1_1 l1_2 a1_3).bind fun bt594 => (if bt594.2.2.2.2.2.2 = 0 then (if t590 = bt594.2.2.2.2.1 then (if (t591 == bt594.2.2.2.2.2.1) = true then ((rialtoref08_Same.f k t584 t585 t586 t589 bt594.1 bt594.2.1 bt594.2.2.1 bt594.2.2.2.1).bind fun t604 => (if t604 = true then ((rialtolaw08_live.f k).bind fun t605 => (some t605)) else (some false))) else (some false)) else (some false)) else (some false))) else ((rialtolaw08_live.f k).bind fun t606 => (some t606))) = some r := H
  have A3 := Aside0.mk A30
  clear A30
  by_cases c4 : t592 = 0
  · rw [if_pos c4] at H
    have c4b0 : (t592 == 0) = true := beq_iff_eq.mpr c4
    have c4b1 : (t592 != 0) = false := bne_eq_false_iff_eq.mpr c4
    clear c4
    replace H := Option.bind_eq_some_iff.mp H
    obtain ⟨⟨t594, t595, t596, t599, t600, t601, t602⟩, A50, H⟩ := H
    replace H : (if t602 = 0 then (if t590 = t600 then (if (t591 == t601) = true then ((rialtoref08_Same.f k t584 t585 t586 t589 t594 t595 t596 t599).bind fun t604 => (if t604 = true then ((rialtolaw08_live.f k).bind fun t605 => (some t605)) else (some false))) else (some false)) else (some false)) else (some false)) = some r := H
    have A5 := Aside0.mk A50
    clear A50
    by_cases c6 : t602 = 0
    · rw [if_pos c6] at H
      have c6b0 : (t602 == 0) = true := beq_iff_eq.mpr c6
      have c6b1 : (t602 != 0) = false := bne_eq_false_iff_eq.mpr c6
      clear c6
      by_cases c7 : t590 = t600
      · rw [if_pos c7] at H
        have c7b0 : (t590 == t600) = true := beq_iff_eq.mpr c7
        have c7b1 : (t590 != t600) = false := bne_eq_false_iff_eq.mpr c7
        clear c7
        by_cases c8 : (t591 == t601) = true
        · rw [if_pos c8] at H
          have c8b0 : (t591 == t601) = true := c8
          (try (have c8b1 : decide (t591 = t601) = true := by simpa using c8))
          (try (have c8b2 : (t591 == t601) = true := by simpa using c8))
          clear c8
          replace H := Option.bind_eq_some_iff.mp H
          obtain ⟨t604, A90, H⟩ := H
          replace H : (if t604 = true then ((rialtolaw08_live.f k).bind fun t605 => (some t605)) else (some false)) = some r := H
          have A9 := Aside0.mk A90
          clear A90
          by_cases c10 : t604 = true
          focus
            subst c10
            have H1 : ((rialtolaw08_live.f k).bind fun t605 => (some t605)) = some r := by rw [if_pos rfl] at H; exact H
            clear H
            have H := H1
            clear H1
            replace H := Option.bind_eq_some_iff.mp H
            obtain ⟨t605, A110, H⟩ := H
            replace H : (some t605) = some r := H
            have A11 := Aside0.mk A110
            clear A110
            obtain rfl := Option.some.inj H
          rotate_left 1
          focus
            replace c10 := Bool.eq_false_iff.mpr c10
            subst c10
            have H1 : (some false) = some r := by rw [if_neg (show ¬ (false = true) by decide)] at H; exact H
            clear H
            have H := H1
            clear H1
            obtain rfl := Option.some.inj H
          rotate_left 1
          all_goals
            go_enter Try.func8, Try.ntmps8
            go_wp2_with (first | ((with_reducible refine gate_dst (N := 2) rfl ?_); refine box_event ?hg (N := 2) ?hd (cs := #[.int .i64 a0_0, .int .i64 a0_1, .slice A0_2 l0_2.length c0_2, .int .i64 a0_3]) (t := 26) ?hr ?_; (case hd => rfl); (case hg => rfl); (case hr => first | (go_simp; done) | (go_simp; rfl)); intro gb582 hg wx2i0 hbox hb; have n0_ := Aside0.mk (below_step (by repeat (first | (with_reducible first | exact HB.out | apply below_alloc | apply pw_below_drewN | apply below_drew1) | exact HB.out)) hb); have n1_ := Aside0.mk (hbox); have n2_ := Aside0.mk ((by rw [hg]; exact (below_size (by repeat (first | (with_reducible first | exact HB.out | apply below_alloc | apply pw_below_drewN | apply below_drew1) | exact HB.out))) : w.heap.size ≤ gb582)); have n3_ := Aside0.mk ((by rw [hg]; exact (below_size (by repeat (first | (with_reducible first | exact HB.out | apply below_alloc | apply pw_below_drewN | apply below_drew1) | exact HB.out))) : w.heap.size ≤ gb582)); clear HB; have HB := n0_; have BK582 := n1_; have GW582 := n2_; have GE582 := n3_; clear n0_ n1_ n2_ n3_; clear hb hbox hg) | ((with_reducible refine gate_dst (N := 3) rfl ?_); refine box_event ?hg (N := 3) ?hd (cs := #[.int .i64 a1_0, .int .i64 a1_1, .slice A1_2 l1_2.length c1_2, .int .i64 a1_3]) (t := 41) ?hr ?_; (case hd => rfl); (case hg => rfl); (case hr => first | (go_simp; done) | (go_simp; rfl)); intro gb583 hg wx3i0 hbox hb; have n0_ := Aside0.mk (blk_below (g := gb582) (o := .cells #[.int .i64 a0_0, .int .i64 a0_1, .slice A0_2 l0_2.length c0_2, .int .i64 a0_3] 26 (0, 0)) (by (with_reducible repeat (first | refine blk_drewN ?_ _ | refine blk_drew ?_ | refine blk_alloc ?_ _)); exact BK582.out) hb); have n1_ := Aside0.mk (below_step (by repeat (first | (with_reducible first | exact HB.out | apply below_alloc | apply pw_below_drewN | apply below_drew1 | refine below_set ?_ GE582.out) | exact HB.out)) hb); have n2_ := Aside0.mk (hbox); have n3_ := Aside0.mk ((by rw [hg]; exact (below_size (by repeat (first | (with_reducible first | exact HB.out | apply below_alloc | apply pw_below_drewN | apply below_drew1 | refine below_set ?_ GE582.out) | exact HB.out))) : w.heap.size ≤ gb583)); have n4_ := Aside0.mk ((by rw [hg]; exact (below_size (by repeat (first | (with_reducible first | exact HB.out | apply below_alloc | apply pw_below_drewN | apply below_drew1 | refine below_set ?_ GE582.out) | exact HB.out))) : w.heap.size ≤ gb583)); have n5_ := Aside0.mk ((by rw [hg]; exact Nat.ne_of_lt (blk_lt (g := gb582) (o := .cells #[.int .i64 a0_0, .int .i64 a0_1, .slice A0_2 l0_2.length c0_2, .int .i64 a0_3] 26 (0, 0)) (by (with_reducible repeat (first | refine blk_drewN ?_ _ | refine blk_drew ?_ | refine blk_alloc ?_ _)); exact BK582.out)) : gb582 ≠ gb583)); have n6_ := Aside0.mk ((by rw [hg]; exact Nat.ne_of_gt (blk_lt (g := gb582) (o := .cells #[.int .i64 a0_0, .int .i64 a0_1, .slice A0_2 l0_2.length c0_2, .int .i64 a0_3] 26 (0, 0)) (by (with_reducible repeat (first | refine blk_drewN ?_ _ | refine blk_drew ?_ | refine blk_alloc ?_ _)); exact BK582.out)) : gb583 ≠ gb582)); clear BK582; clear HB; have BK582 := n0_; have HB := n1_; have BK583 := n2_; have GW583 := n3_; have GE583 := n4_; have NB582_583 := n5_; have NB583_582 := n6_; clear n0_ n1_ n2_ n3_ n4_ n5_ n6_; clear hb hbox hg; have hnbx3b582_583 := NB582_583.out; have hncx3b583_582 := NB583_582.out; have hczx3b582_0 : wx3i0.cell? ⟨gb582, 0, none⟩ = some (.int .i64 a0_0) := (blk_cell BK582.out 0).trans rfl; have hczx3b582_1 : wx3i0.cell? ⟨gb582, 1, none⟩ = some (.int .i64 a0_1) := (blk_cell BK582.out 1).trans rfl; have hczx3b582_2 : wx3i0.cell? ⟨gb582, 2, none⟩ = some (.slice A0_2 l0_2.length c0_2) := (blk_cell BK582.out 2).trans rfl; have hczx3b582_3 : wx3i0.cell? ⟨gb582, 3, none⟩ = some (.int .i64 a0_3) := (blk_cell BK582.out 3).trans rfl; have hfzx3b582_0 := blk_frozen BK582.out 0; have hfzx3b582_1 := blk_frozen BK582.out 1; have hfzx3b582_2 := blk_frozen BK582.out 2; have hfzx3b582_3 := blk_frozen BK582.out 3; have hczx3b583_0 : wx3i0.cell? ⟨gb583, 0, none⟩ = some (.int .i64 a1_0) := (blk_cell BK583.out 0).trans rfl; have hczx3b583_1 : wx3i0.cell? ⟨gb583, 1, none⟩ = some (.int .i64 a1_1) := (blk_cell BK583.out 1).trans rfl; have hczx3b583_2 : wx3i0.cell? ⟨gb583, 2, none⟩ = some (.slice A1_2 l1_2.length c1_2) := (blk_cell BK583.out 2).trans rfl; have hczx3b583_3 : wx3i0.cell? ⟨gb583, 3, none⟩ = some (.int .i64 a1_3) := (blk_cell BK583.out 3).trans rfl; have hfzx3b583_0 := blk_frozen BK583.out 0; have hfzx3b583_1 := blk_frozen BK583.out 1; have hfzx3b583_2 := blk_frozen BK583.out 2; have hfzx3b583_3 := blk_frozen BK583.out 3) | ((with_reducible refine gate_callee (f := 20) rfl ?_); refine goesL_ (some 21) rfl rfl Try.func20 (by kernel_rfl) rfl #[.agg #[.int .i64 a0_0, .int .i64 a0_1, .slice A0_2 l0_2.length c0_2, .int .i64 a0_3], .agg #[.int .i64 a1_0, .int .i64 a1_1], .slice A1_2 l1_2.length c1_2, .int .i64 a1_3] rfl (by (try simp only [List.map_toArray, List.map_cons, List.map_nil]); first | done | rfl | (simp only [List.length_drop, List.length_take]; rfl)) ?_; (with_reducible refine (entries_Accept.calls k a0_0 a0_1 _ _ l0_2 a0_3 a1_0 a1_1 _ _ l1_2 a1_3 t584 t585 t586 t589 t590 t591 t592 _ ?side1 ?side2 ?side3 ?side4 A3.out).mono ?_); (case side1 => repeat (first | exact (Kd.C_below HR0_2.out HB.out) | (with_reducible refine Kd.C_alloc ?_ _) | (with_reducible refine Kd.C_drewN ?_ _) | (with_reducible refine Kd.C_drew ?_))); (case side2 => exact HC0_2.out); (case side3 => repeat (first | exact (Kd.C_below HR1_2.out HB.out) | (with_reducible refine Kd.C_alloc ?_ _) | (with_reducible refine Kd.C_drewN ?_ _) | (with_reducible refine Kd.C_drew ?_))); (case side4 => exact HC1_2.out); rintro e wx21i0 ⟨v587, rfl, ho0, hb⟩; refine ⟨_, rfl, ?_⟩; have n0_ := Aside0.mk (Kd.R_lower ho0 (below_size (by repeat (first | (with_reducible first | exact HB.out | apply below_alloc | apply pw_below_drewN | apply below_drew1 | refine below_set ?_ GE582.out | refine below_set ?_ GE583.out) | exact HB.out)))); have n1_ := Aside0.mk (blk_below (g := gb582) (o := .cells #[.int .i64 a0_0, .int .i64 a0_1, .slice A0_2 l0_2.length c0_2, .int .i64 a0_3] 26 (0, 0)) (by (with_reducible repeat (first | refine blk_drewN ?_ _ | refine blk_drew ?_ | refine blk_alloc ?_ _)); exact BK582.out) hb); have n2_ := Aside0.mk (blk_below (g := gb583) (o := .cells #[.int .i64 a1_0, .int .i64 a1_1, .slice A1_2 l1_2.length c1_2, .int .i64 a1_3] 41 (0, 0)) (by (with_reducible repeat (first | refine blk_drewN ?_ _ | refine blk_drew ?_ | refine blk_alloc ?_ _)); exact BK583.out) hb); have n3_ := Aside0.mk (below_step (by repeat (first | (with_reducible first | exact HB.out | apply below_alloc | apply pw_below_drewN | apply below_drew1 | refine below_set ?_ GE582.out | refine below_set ?_ GE583.out) | exact HB.out)) hb); clear BK582; clear BK583; clear HB; have HO588 := n0_; have BK582 := n1_; have BK583 := n2_; have HB := n3_; clear n0_ n1_ n2_ n3_; (try clear hb); (try clear hb2); (try clear hk); (try clear hi); (try clear ho0)) | ((with_reducible refine gate_dst (N := 5) rfl ?_); refine box_event ?hg (N := 5) ?hd (cs := #[.int .i64 0, .int .i64 0, .slice none 0 0, .int .i64 0]) (t := 26) ?hr ?_; (case hd => rfl); (case hg => rfl); (case hr => first | (go_simp; done) | (go_simp; rfl)); intro gb593 hg wx5i0 hbox hb; have n0_ := Aside0.mk (Kd.R_below (by (with_reducible repeat (first | apply Kd.R_alloc | apply Kd.R_drewN | apply Kd.R_drew)); exact HO588.out) hb); have n1_ := Aside0.mk (blk_below (g := gb582) (o := .cells #[.int .i64 a0_0, .int .i64 a0_1, .slice A0_2 l0_2.length c0_2, .int .i64 a0_3] 26 (0, 0)) (by (with_reducible repeat (first | refine blk_drewN ?_ _ | refine blk_drew ?_ | refine blk_alloc ?_ _)); exact BK582.out) hb); have n2_ := Aside0.mk (blk_below (g := gb583) (o := .cells #[.int .i64 a1_0, .int .i64 a1_1, .slice A1_2 l1_2.length c1_2, .int .i64 a1_3] 41 (0, 0)) (by (with_reducible repeat (first | refine blk_drewN ?_ _ | refine blk_drew ?_ | refine blk_alloc ?_ _)); exact BK583.out) hb); have n3_ := Aside0.mk (below_step (by repeat (first | (with_reducible first | exact HB.out | apply below_alloc | apply pw_below_drewN | apply below_drew1 | refine below_set ?_ GE582.out | refine below_set ?_ GE583.out) | exact HB.out)) hb); have n4_ := Aside0.mk (hbox); have n5_ := Aside0.mk ((by rw [hg]; exact (below_size (by repeat (first | (with_reducible first | exact HB.out | apply below_alloc | apply pw_below_drewN | apply below_drew1 | refine below_set ?_ GE582.out | refine below_set ?_ GE583.out) | exact HB.out))) : w.heap.size ≤ gb593)); have n6_ := Aside0.mk ((by rw [hg]; exact (below_size (by repeat (first | (with_reducible first | exact HB.out | apply below_alloc | apply pw_below_drewN | apply below_drew1 | refine below_set ?_ GE582.out | refine below_set ?_ GE583.out) | exact HB.out))) : w.heap.size ≤ gb593)); have n7_ := Aside0.mk ((by rw [hg]; exact Nat.ne_of_lt (blk_lt (g := gb582) (o := .cells #[.int .i64 a0_0, .int .i64 a0_1, .slice A0_2 l0_2.length c0_2, .int .i64 a0_3] 26 (0, 0)) (by (with_reducible repeat (first | refine blk_drewN ?_ _ | refine blk_drew ?_ | refine blk_alloc ?_ _)); exact BK582.out)) : gb582 ≠ gb593)); have n8_ := Aside0.mk ((by rw [hg]; exact Nat.ne_of_gt (blk_lt (g := gb582) (o := .cells #[.int .i64 a0_0, .int .i64 a0_1, .slice A0_2 l0_2.length c0_2, .int .i64 a0_3] 26 (0, 0)) (by (with_reducible repeat (first | refine blk_drewN ?_ _ | refine blk_drew ?_ | refine blk_alloc ?_ _)); exact BK582.out)) : gb593 ≠ gb582)); have n9_ := Aside0.mk ((by rw [hg]; exact Nat.ne_of_lt (blk_lt (g := gb583) (o := .cells #[.int .i64 a1_0, .int .i64 a1_1, .slice A1_2 l1_2.length c1_2, .int .i64 a1_3] 41 (0, 0)) (by (with_reducible repeat (first | refine blk_drewN ?_ _ | refine blk_drew ?_ | refine blk_alloc ?_ _)); exact BK583.out)) : gb583 ≠ gb593)); have n10_ := Aside0.mk ((by rw [hg]; exact Nat.ne_of_gt (blk_lt (g := gb583) (o := .cells #[.int .i64 a1_0, .int .i64 a1_1, .slice A1_2 l1_2.length c1_2, .int .i64 a1_3] 41 (0, 0)) (by (with_reducible repeat (first | refine blk_drewN ?_ _ | refine blk_drew ?_ | refine blk_alloc ?_ _)); exact BK583.out)) : gb593 ≠ gb583)); clear HO588; clear BK582; clear BK583; clear HB; have HO588 := n0_; have BK582 := n1_; have BK583 := n2_; have HB := n3_; have BK593 := n4_; have GW593 := n5_; have GE593 := n6_; have NB582_593 := n7_; have NB593_582 := n8_; have NB583_593 := n9_; have NB593_583 := n10_; clear n0_ n1_ n2_ n3_ n4_ n5_ n6_ n7_ n8_ n9_ n10_; clear hb hbox hg; have hnbx5b593_582 := NB593_582.out; have hncx5b582_593 := NB582_593.out; have hnbx5b593_583 := NB593_583.out; have hncx5b583_593 := NB583_593.out; have hczx5b593_0 : wx5i0.cell? ⟨gb593, 0, none⟩ = some (.int .i64 0) := (blk_cell BK593.out 0).trans rfl; have hczx5b593_1 : wx5i0.cell? ⟨gb593, 1, none⟩ = some (.int .i64 0) := (blk_cell BK593.out 1).trans rfl; have hczx5b593_2 : wx5i0.cell? ⟨gb593, 2, none⟩ = some (.slice none 0 0) := (blk_cell BK593.out 2).trans rfl; have hczx5b593_3 : wx5i0.cell? ⟨gb593, 3, none⟩ = some (.int .i64 0) := (blk_cell BK593.out 3).trans rfl; have hfzx5b593_0 := blk_frozen BK593.out 0; have hfzx5b593_1 := blk_frozen BK593.out 1; have hfzx5b593_2 := blk_frozen BK593.out 2; have hfzx5b593_3 := blk_frozen BK593.out 3; obtain ⟨Aox5i0, cox5i0, eox5i0⟩ := Kd.R_slice HO588.out; subst eox5i0; have hczx5b583_0 : wx5i0.cell? ⟨gb583, 0, none⟩ = some (.int .i64 a1_0) := (blk_cell BK583.out 0).trans rfl; have hczx5b583_1 : wx5i0.cell? ⟨gb583, 1, none⟩ = some (.int .i64 a1_1) := (blk_cell BK583.out 1).trans rfl; have hczx5b583_2 : wx5i0.cell? ⟨gb583, 2, none⟩ = some (.slice A1_2 l1_2.length c1_2) := (blk_cell BK583.out 2).trans rfl; have hczx5b583_3 : wx5i0.cell? ⟨gb583, 3, none⟩ = some (.int .i64 a1_3) := (blk_cell BK583.out 3).trans rfl; have hfzx5b583_0 := blk_frozen BK583.out 0; have hfzx5b583_1 := blk_frozen BK583.out 1; have hfzx5b583_2 := blk_frozen BK583.out 2; have hfzx5b583_3 := blk_frozen BK583.out 3) | ((with_reducible refine gate_callee (f := 20) rfl ?_); refine goesL_ (some 37) rfl rfl Try.func20 (by kernel_rfl) rfl #[.agg #[.int .i64 t584, .int .i64 t585, .slice Aox5i0 t586.length cox5i0, .int .i64 t589], .agg #[.int .i64 a1_0, .int .i64 a1_1], .slice A1_2 l1_2.length c1_2, .int .i64 a1_3] rfl (by (try simp only [List.map_toArray, List.map_cons, List.map_nil]); first | done | rfl | (simp only [List.length_drop, List.length_take]; rfl)) ?_; (with_reducible refine (entries_Accept.calls k t584 t585 _ _ t586 t589 a1_0 a1_1 _ _ l1_2 a1_3 t594 t595 t596 t599 t600 t601 t602 _ ?side1 ?side2 ?side3 ?side4 A5.out).mono ?_); (case side1 => refine (Kd.R_reads' (e := 33) (base := w.heap.size) (ok := fun k_ => True) (n := t586.length) (c := cox5i0) ?_).2.2; exact (by (with_reducible repeat (first | apply Kd.R_alloc | apply Kd.R_drewN | apply Kd.R_drew)); exact (Kd.R_mono (Kd.R_far (p := ⟨gb593, 3, none⟩) (Kd.R_far (p := ⟨gb593, 2, none⟩) (Kd.R_far (p := ⟨gb593, 1, none⟩) (Kd.R_far (p := ⟨gb593, 0, none⟩) (Kd.R_types HO588.out BK593.out (by decide)) (fun _ hk => hk.2) (.int .i64 t584)) (fun _ hk => hk.2) (.int .i64 t585)) (fun _ hk => hk.2) (.slice Aox5i0 t586.length cox5i0)) (fun _ hk => hk.2) (.int .i64 t589)) (fun _ h_ => h_.1)))); (case side2 => exact (Kd.R_reads' HO588.out).2.1); (case side3 => exact Kd.C_below HR1_2.out (by repeat (first | (with_reducible first | exact HB.out | apply below_alloc | apply pw_below_drewN | apply below_drew1 | refine below_set ?_ GE582.out | refine below_set ?_ GE583.out | refine below_set ?_ GE593.out) | exact HB.out))); (case side4 => exact HC1_2.out); rintro e wx37i0 ⟨v597, rfl, ho0, hb⟩; refine ⟨_, rfl, ?_⟩; have n0_ := Aside0.mk (Kd.R_elder' (by (with_reducible repeat (first | apply Kd.R_alloc | apply Kd.R_drewN | apply Kd.R_drew)); exact (Kd.R_mono (Kd.R_far (p := ⟨gb593, 3, none⟩) (Kd.R_far (p := ⟨gb593, 2, none⟩) (Kd.R_far (p := ⟨gb593, 1, none⟩) (Kd.R_far (p := ⟨gb593, 0, none⟩) (Kd.R_types HO588.out BK593.out (by decide)) (fun _ hk => hk.2) (.int .i64 t584)) (fun _ hk => hk.2) (.int .i64 t585)) (fun _ hk => hk.2) (.slice Aox5i0 t586.length cox5i0)) (fun _ hk => hk.2) (.int .i64 t589)) (fun _ h_ => h_.1))) (Kd.R_base ho0) hb); have n1_ := Aside0.mk (Kd.R_lower (Kd.R_new' ho0 (Kd.R_lt (by (with_reducible repeat (first | apply Kd.R_alloc | apply Kd.R_drewN | apply Kd.R_drew)); exact (Kd.R_mono (Kd.R_far (p := ⟨gb593, 3, none⟩) (Kd.R_far (p := ⟨gb593, 2, none⟩) (Kd.R_far (p := ⟨gb593, 1, none⟩) (Kd.R_far (p := ⟨gb593, 0, none⟩) (Kd.R_types HO588.out BK593.out (by decide)) (fun _ hk => hk.2) (.int .i64 t584)) (fun _ hk => hk.2) (.int .i64 t585)) (fun _ hk => hk.2) (.slice Aox5i0 t586.length cox5i0)) (fun _ hk => hk.2) (.int .i64 t589)) (fun _ h_ => h_.1))))) (below_size (by repeat (first | (with_reducible first | exact HB.out | apply below_alloc | apply pw_below_drewN | apply below_drew1 | refine below_set ?_ GE582.out | refine below_set ?_ GE583.out | refine below_set ?_ GE593.out) | exact HB.out)))); have n2_ := Aside0.mk (blk_below (g := gb582) (o := .cells #[.int .i64 a0_0, .int .i64 a0_1, .slice A0_2 l0_2.length c0_2, .int .i64 a0_3] 26 (0, 0)) (by (with_reducible repeat (first | refine blk_drewN ?_ _ | refine blk_drew ?_ | refine blk_alloc ?_ _)); refine blk_far ?_ NB582_593.out _; (with_reducible repeat (first | refine blk_drewN ?_ _ | refine blk_drew ?_ | refine blk_alloc ?_ _)); refine blk_far ?_ NB582_593.out _; (with_reducible repeat (first | refine blk_drewN ?_ _ | refine blk_drew ?_ | refine blk_alloc ?_ _)); refine blk_far ?_ NB582_593.out _; (with_reducible repeat (first | refine blk_drewN ?_ _ | refine blk_drew ?_ | refine blk_alloc ?_ _)); refine blk_far ?_ NB582_593.out _; (with_reducible repeat (first | refine blk_drewN ?_ _ | refine blk_drew ?_ | refine blk_alloc ?_ _)); exact BK582.out) hb); have n3_ := Aside0.mk (blk_below (g := gb583) (o := .cells #[.int .i64 a1_0, .int .i64 a1_1, .slice A1_2 l1_2.length c1_2, .int .i64 a1_3] 41 (0, 0)) (by (with_reducible repeat (first | refine blk_drewN ?_ _ | refine blk_drew ?_ | refine blk_alloc ?_ _)); refine blk_far ?_ NB583_593.out _; (with_reducible repeat (first | refine blk_drewN ?_ _ | refine blk_drew ?_ | refine blk_alloc ?_ _)); refine blk_far ?_ NB583_593.out _; (with_reducible repeat (first | refine blk_drewN ?_ _ | refine blk_drew ?_ | refine blk_alloc ?_ _)); refine blk_far ?_ NB583_593.out _; (with_reducible repeat (first | refine blk_drewN ?_ _ | refine blk_drew ?_ | refine blk_alloc ?_ _)); refine blk_far ?_ NB583_593.out _; (with_reducible repeat (first | refine blk_drewN ?_ _ | refine blk_drew ?_ | refine blk_alloc ?_ _)); exact BK583.out) hb); have n4_ := Aside0.mk (blk_below (g := gb593) (o := .cells #[.int .i64 t584, .int .i64 t585, .slice Aox5i0 t586.length cox5i0, .int .i64 t589] 26 (0, 0)) (by (with_reducible repeat (first | refine blk_drewN ?_ _ | refine blk_drew ?_ | refine blk_alloc ?_ _)); refine blk_put (cs := #[.int .i64 t584, .int .i64 t585, .slice Aox5i0 t586.length cox5i0, .int .i64 0]) ?_ 3 _ rfl; (with_reducible repeat (first | refine blk_drewN ?_ _ | refine blk_drew ?_ | refine blk_alloc ?_ _)); refine blk_put (cs := #[.int .i64 t584, .int .i64 t585, .slice none 0 0, .int .i64 0]) ?_ 2 _ rfl; (with_reducible repeat (first | refine blk_drewN ?_ _ | refine blk_drew ?_ | refine blk_alloc ?_ _)); refine blk_put (cs := #[.int .i64 t584, .int .i64 0, .slice none 0 0, .int .i64 0]) ?_ 1 _ rfl; (with_reducible repeat (first | refine blk_drewN ?_ _ | refine blk_drew ?_ | refine blk_alloc ?_ _)); refine blk_put (cs := #[.int .i64 0, .int .i64 0, .slice none 0 0, .int .i64 0]) ?_ 0 _ rfl; (with_reducible repeat (first | refine blk_drewN ?_ _ | refine blk_drew ?_ | refine blk_alloc ?_ _)); exact BK593.out) hb); have n5_ := Aside0.mk (below_step (by repeat (first | (with_reducible first | exact HB.out | apply below_alloc | apply pw_below_drewN | apply below_drew1 | refine below_set ?_ GE582.out | refine below_set ?_ GE583.out | refine below_set ?_ GE593.out) | exact HB.out)) hb); clear HO588; clear BK582; clear BK583; clear BK593; clear HB; have HO588 := n0_; have HO598 := n1_; have BK582 := n2_; have BK583 := n3_; have BK593 := n4_; have HB := n5_; clear n0_ n1_ n2_ n3_ n4_ n5_; (try clear hb); (try clear hb2); (try clear hk); (try clear hi); (try clear ho0)) | ((with_reducible refine gate_dst (N := 9) rfl ?_); refine box_event ?hg (N := 9) ?hd (cs := #[.int .i64 0, .int .i64 0, .slice none 0 0, .int .i64 0]) (t := 26) ?hr ?_; (case hd => rfl); (case hg => rfl); (case hr => first | (go_simp; done) | (go_simp; rfl)); intro gb603 hg wx9i0 hbox hb; have n0_ := Aside0.mk (Kd.R_below (by (with_reducible repeat (first | apply Kd.R_alloc | apply Kd.R_drewN | apply Kd.R_drew)); exact HO588.out) hb); have n1_ := Aside0.mk (Kd.R_below (by (with_reducible repeat (first | apply Kd.R_alloc | apply Kd.R_drewN | apply Kd.R_drew)); exact HO598.out) hb); have n2_ := Aside0.mk (blk_below (g := gb582) (o := .cells #[.int .i64 a0_0, .int .i64 a0_1, .slice A0_2 l0_2.length c0_2, .int .i64 a0_3] 26 (0, 0)) (by (with_reducible repeat (first | refine blk_drewN ?_ _ | refine blk_drew ?_ | refine blk_alloc ?_ _)); exact BK582.out) hb); have n3_ := Aside0.mk (blk_below (g := gb583) (o := .cells #[.int .i64 a1_0, .int .i64 a1_1, .slice A1_2 l1_2.length c1_2, .int .i64 a1_3] 41 (0, 0)) (by (with_reducible repeat (first | refine blk_drewN ?_ _ | refine blk_drew ?_ | refine blk_alloc ?_ _)); exact BK583.out) hb); have n4_ := Aside0.mk (blk_below (g := gb593) (o := .cells #[.int .i64 t584, .int .i64 t585, .slice Aox5i0 t586.length cox5i0, .int .i64 t589] 26 (0, 0)) (by (with_reducible repeat (first | refine blk_drewN ?_ _ | refine blk_drew ?_ | refine blk_alloc ?_ _)); exact BK593.out) hb); have n5_ := Aside0.mk (below_step (by repeat (first | (with_reducible first | exact HB.out | apply below_alloc | apply pw_below_drewN | apply below_drew1 | refine below_set ?_ GE582.out | refine below_set ?_ GE583.out | refine below_set ?_ GE593.out) | exact HB.out)) hb); have n6_ := Aside0.mk (hbox); have n7_ := Aside0.mk ((by rw [hg]; exact (below_size (by repeat (first | (with_reducible first | exact HB.out | apply below_alloc | apply pw_below_drewN | apply below_drew1 | refine below_set ?_ GE582.out | refine below_set ?_ GE583.out | refine below_set ?_ GE593.out) | exact HB.out))) : w.heap.size ≤ gb603)); have n8_ := Aside0.mk ((by rw [hg]; exact (below_size (by repeat (first | (with_reducible first | exact HB.out | apply below_alloc | apply pw_below_drewN | apply below_drew1 | refine below_set ?_ GE582.out | refine below_set ?_ GE583.out | refine below_set ?_ GE593.out) | exact HB.out))) : w.heap.size ≤ gb603)); have n9_ := Aside0.mk ((by rw [hg]; exact Nat.ne_of_lt (blk_lt (g := gb582) (o := .cells #[.int .i64 a0_0, .int .i64 a0_1, .slice A0_2 l0_2.length c0_2, .int .i64 a0_3] 26 (0, 0)) (by (with_reducible repeat (first | refine blk_drewN ?_ _ | refine blk_drew ?_ | refine blk_alloc ?_ _)); exact BK582.out)) : gb582 ≠ gb603)); have n10_ := Aside0.mk ((by rw [hg]; exact Nat.ne_of_gt (blk_lt (g := gb582) (o := .cells #[.int .i64 a0_0, .int .i64 a0_1, .slice A0_2 l0_2.length c0_2, .int .i64 a0_3] 26 (0, 0)) (by (with_reducible repeat (first | refine blk_drewN ?_ _ | refine blk_drew ?_ | refine blk_alloc ?_ _)); exact BK582.out)) : gb603 ≠ gb582)); have n11_ := Aside0.mk ((by rw [hg]; exact Nat.ne_of_lt (blk_lt (g := gb583) (o := .cells #[.int .i64 a1_0, .int .i64 a1_1, .slice A1_2 l1_2.length c1_2, .int .i64 a1_3] 41 (0, 0)) (by (with_reducible repeat (first | refine blk_drewN ?_ _ | refine blk_drew ?_ | refine blk_alloc ?_ _)); exact BK583.out)) : gb583 ≠ gb603)); have n12_ := Aside0.mk ((by rw [hg]; exact Nat.ne_of_gt (blk_lt (g := gb583) (o := .cells #[.int .i64 a1_0, .int .i64 a1_1, .slice A1_2 l1_2.length c1_2, .int .i64 a1_3] 41 (0, 0)) (by (with_reducible repeat (first | refine blk_drewN ?_ _ | refine blk_drew ?_ | refine blk_alloc ?_ _)); exact BK583.out)) : gb603 ≠ gb583)); have n13_ := Aside0.mk ((by rw [hg]; exact Nat.ne_of_lt (blk_lt (g := gb593) (o := .cells #[.int .i64 t584, .int .i64 t585, .slice Aox5i0 t586.length cox5i0, .int .i64 t589] 26 (0, 0)) (by (with_reducible repeat (first | refine blk_drewN ?_ _ | refine blk_drew ?_ | refine blk_alloc ?_ _)); exact BK593.out)) : gb593 ≠ gb603)); have n14_ := Aside0.mk ((by rw [hg]; exact Nat.ne_of_gt (blk_lt (g := gb593) (o := .cells #[.int .i64 t584, .int .i64 t585, .slice Aox5i0 t586.length cox5i0, .int .i64 t589] 26 (0, 0)) (by (with_reducible repeat (first | refine blk_drewN ?_ _ | refine blk_drew ?_ | refine blk_alloc ?_ _)); exact BK593.out)) : gb603 ≠ gb593)); clear HO588; clear HO598; clear BK582; clear BK583; clear BK593; clear HB; have HO588 := n0_; have HO598 := n1_; have BK582 := n2_; have BK583 := n3_; have BK593 := n4_; have HB := n5_; have BK603 := n6_; have GW603 := n7_; have GE603 := n8_; have NB582_603 := n9_; have NB603_582 := n10_; have NB583_603 := n11_; have NB603_583 := n12_; have NB593_603 := n13_; have NB603_593 := n14_; clear n0_ n1_ n2_ n3_ n4_ n5_ n6_ n7_ n8_ n9_ n10_ n11_ n12_ n13_ n14_; clear hb hbox hg; have hnbx9b603_582 := NB603_582.out; have hncx9b582_603 := NB582_603.out; have hnbx9b603_583 := NB603_583.out; have hncx9b583_603 := NB583_603.out; have hnbx9b603_593 := NB603_593.out; have hncx9b593_603 := NB593_603.out; have hczx9b603_0 : wx9i0.cell? ⟨gb603, 0, none⟩ = some (.int .i64 0) := (blk_cell BK603.out 0).trans rfl; have hczx9b603_1 : wx9i0.cell? ⟨gb603, 1, none⟩ = some (.int .i64 0) := (blk_cell BK603.out 1).trans rfl; have hczx9b603_2 : wx9i0.cell? ⟨gb603, 2, none⟩ = some (.slice none 0 0) := (blk_cell BK603.out 2).trans rfl; have hczx9b603_3 : wx9i0.cell? ⟨gb603, 3, none⟩ = some (.int .i64 0) := (blk_cell BK603.out 3).trans rfl; have hfzx9b603_0 := blk_frozen BK603.out 0; have hfzx9b603_1 := blk_frozen BK603.out 1; have hfzx9b603_2 := blk_frozen BK603.out 2; have hfzx9b603_3 := blk_frozen BK603.out 3; obtain ⟨Aox9i0, cox9i0, eox9i0⟩ := Kd.R_slice HO598.out; subst eox9i0; have hczx9b593_0 : wx9i0.cell? ⟨gb593, 0, none⟩ = some (.int .i64 t584) := (blk_cell BK593.out 0).trans rfl; have hczx9b593_1 : wx9i0.cell? ⟨gb593, 1, none⟩ = some (.int .i64 t585) := (blk_cell BK593.out 1).trans rfl; have hczx9b593_2 : wx9i0.cell? ⟨gb593, 2, none⟩ = some (.slice Aox5i0 t586.length cox5i0) := (blk_cell BK593.out 2).trans rfl; have hczx9b593_3 : wx9i0.cell? ⟨gb593, 3, none⟩ = some (.int .i64 t589) := (blk_cell BK593.out 3).trans rfl; have hfzx9b593_0 := blk_frozen BK593.out 0; have hfzx9b593_1 := blk_frozen BK593.out 1; have hfzx9b593_2 := blk_frozen BK593.out 2; have hfzx9b593_3 := blk_frozen BK593.out 3) | (go_at_call 16; (with_reducible refine (rialtoref08_Same.calls k t584 t585 _ _ t586 t589 t594 t595 _ _ t596 t599 _ _ ?side1 ?side2 ?side3 ?side4 A9.out).mono ?_); (case side1 => refine (Kd.R_reads' (e := 33) (base := w.heap.size) (ok := fun k_ => (True ∧ some k_ ≠ (.slice Aox9i0 t596.length cox9i0 : Value).ownBlock)) (n := t586.length) (c := cox5i0) ?_).2.2; exact (by (with_reducible repeat (first | apply Kd.R_alloc | apply Kd.R_drewN | apply Kd.R_drew)); exact (Kd.R_mono (Kd.R_far (p := ⟨gb603, 3, none⟩) (Kd.R_far (p := ⟨gb603, 2, none⟩) (Kd.R_far (p := ⟨gb603, 1, none⟩) (Kd.R_far (p := ⟨gb603, 0, none⟩) (Kd.R_types HO588.out BK603.out (by decide)) (fun _ hk => hk.2) (.int .i64 t594)) (fun _ hk => hk.2) (.int .i64 t595)) (fun _ hk => hk.2) (.slice Aox9i0 t596.length cox9i0)) (fun _ hk => hk.2) (.int .i64 t599)) (fun _ h_ => h_.1)))); (case side2 => exact (Kd.R_reads' HO588.out).2.1); (case side3 => refine (Kd.R_reads' (e := 33) (base := w.heap.size) (ok := fun k_ => (True ∧ some k_ ≠ (.slice Aox5i0 t586.length cox5i0 : Value).ownBlock)) (n := t596.length) (c := cox9i0) ?_).2.2; exact (by (with_reducible repeat (first | apply Kd.R_alloc | apply Kd.R_drewN | apply Kd.R_drew)); exact (Kd.R_mono (Kd.R_far (p := ⟨gb603, 3, none⟩) (Kd.R_far (p := ⟨gb603, 2, none⟩) (Kd.R_far (p := ⟨gb603, 1, none⟩) (Kd.R_far (p := ⟨gb603, 0, none⟩) (Kd.R_types HO598.out BK603.out (by decide)) (fun _ hk => hk.2) (.int .i64 t594)) (fun _ hk => hk.2) (.int .i64 t595)) (fun _ hk => hk.2) (.slice Aox9i0 t596.length cox9i0)) (fun _ hk => hk.2) (.int .i64 t599)) (fun _ h_ => h_.1)))); (case side4 => exact (Kd.R_reads' HO598.out).2.1); rintro e wyi0 ⟨rfl, hb⟩; have n0_ := Aside0.mk (Kd.R_below (by (with_reducible repeat (first | apply Kd.R_alloc | apply Kd.R_drewN | apply Kd.R_drew)); exact (Kd.R_mono (Kd.R_far (p := ⟨gb603, 3, none⟩) (Kd.R_far (p := ⟨gb603, 2, none⟩) (Kd.R_far (p := ⟨gb603, 1, none⟩) (Kd.R_far (p := ⟨gb603, 0, none⟩) (Kd.R_types HO588.out BK603.out (by decide)) (fun _ hk => hk.2) (.int .i64 t594)) (fun _ hk => hk.2) (.int .i64 t595)) (fun _ hk => hk.2) (.slice Aox9i0 t596.length cox9i0)) (fun _ hk => hk.2) (.int .i64 t599)) (fun _ h_ => h_.1))) hb); have n1_ := Aside0.mk (Kd.R_below (by (with_reducible repeat (first | apply Kd.R_alloc | apply Kd.R_drewN | apply Kd.R_drew)); exact (Kd.R_mono (Kd.R_far (p := ⟨gb603, 3, none⟩) (Kd.R_far (p := ⟨gb603, 2, none⟩) (Kd.R_far (p := ⟨gb603, 1, none⟩) (Kd.R_far (p := ⟨gb603, 0, none⟩) (Kd.R_types HO598.out BK603.out (by decide)) (fun _ hk => hk.2) (.int .i64 t594)) (fun _ hk => hk.2) (.int .i64 t595)) (fun _ hk => hk.2) (.slice Aox9i0 t596.length cox9i0)) (fun _ hk => hk.2) (.int .i64 t599)) (fun _ h_ => h_.1))) hb); have n2_ := Aside0.mk (blk_below (g := gb582) (o := .cells #[.int .i64 a0_0, .int .i64 a0_1, .slice A0_2 l0_2.length c0_2, .int .i64 a0_3] 26 (0, 0)) (by (with_reducible repeat (first | refine blk_drewN ?_ _ | refine blk_drew ?_ | refine blk_alloc ?_ _)); refine blk_far ?_ NB582_603.out _; (with_reducible repeat (first | refine blk_drewN ?_ _ | refine blk_drew ?_ | refine blk_alloc ?_ _)); refine blk_far ?_ NB582_603.out _; (with_reducible repeat (first | refine blk_drewN ?_ _ | refine blk_drew ?_ | refine blk_alloc ?_ _)); refine blk_far ?_ NB582_603.out _; (with_reducible repeat (first | refine blk_drewN ?_ _ | refine blk_drew ?_ | refine blk_alloc ?_ _)); refine blk_far ?_ NB582_603.out _; (with_reducible repeat (first | refine blk_drewN ?_ _ | refine blk_drew ?_ | refine blk_alloc ?_ _)); exact BK582.out) hb); have n3_ := Aside0.mk (blk_below (g := gb583) (o := .cells #[.int .i64 a1_0, .int .i64 a1_1, .slice A1_2 l1_2.length c1_2, .int .i64 a1_3] 41 (0, 0)) (by (with_reducible repeat (first | refine blk_drewN ?_ _ | refine blk_drew ?_ | refine blk_alloc ?_ _)); refine blk_far ?_ NB583_603.out _; (with_reducible repeat (first | refine blk_drewN ?_ _ | refine blk_drew ?_ | refine blk_alloc ?_ _)); refine blk_far ?_ NB583_603.out _; (with_reducible repeat (first | refine blk_drewN ?_ _ | refine blk_drew ?_ | refine blk_alloc ?_ _)); refine blk_far ?_ NB583_603.out _; (with_reducible repeat (first | refine blk_drewN ?_ _ | refine blk_drew ?_ | refine blk_alloc ?_ _)); refine blk_far ?_ NB583_603.out _; (with_reducible repeat (first | refine blk_drewN ?_ _ | refine blk_drew ?_ | refine blk_alloc ?_ _)); exact BK583.out) hb); have n4_ := Aside0.mk (blk_below (g := gb593) (o := .cells #[.int .i64 t584, .int .i64 t585, .slice Aox5i0 t586.length cox5i0, .int .i64 t589] 26 (0, 0)) (by (with_reducible repeat (first | refine blk_drewN ?_ _ | refine blk_drew ?_ | refine blk_alloc ?_ _)); refine blk_far ?_ NB593_603.out _; (with_reducible repeat (first | refine blk_drewN ?_ _ | refine blk_drew ?_ | refine blk_alloc ?_ _)); refine blk_far ?_ NB593_603.out _; (with_reducible repeat (first | refine blk_drewN ?_ _ | refine blk_drew ?_ | refine blk_alloc ?_ _)); refine blk_far ?_ NB593_603.out _; (with_reducible repeat (first | refine blk_drewN ?_ _ | refine blk_drew ?_ | refine blk_alloc ?_ _)); refine blk_far ?_ NB593_603.out _; (with_reducible repeat (first | refine blk_drewN ?_ _ | refine blk_drew ?_ | refine blk_alloc ?_ _)); exact BK593.out) hb); have n5_ := Aside0.mk (blk_below (g := gb603) (o := .cells #[.int .i64 t594, .int .i64 t595, .slice Aox9i0 t596.length cox9i0, .int .i64 t599] 26 (0, 0)) (by (with_reducible repeat (first | refine blk_drewN ?_ _ | refine blk_drew ?_ | refine blk_alloc ?_ _)); refine blk_put (cs := #[.int .i64 t594, .int .i64 t595, .slice Aox9i0 t596.length cox9i0, .int .i64 0]) ?_ 3 _ rfl; (with_reducible repeat (first | refine blk_drewN ?_ _ | refine blk_drew ?_ | refine blk_alloc ?_ _)); refine blk_put (cs := #[.int .i64 t594, .int .i64 t595, .slice none 0 0, .int .i64 0]) ?_ 2 _ rfl; (with_reducible repeat (first | refine blk_drewN ?_ _ | refine blk_drew ?_ | refine blk_alloc ?_ _)); refine blk_put (cs := #[.int .i64 t594, .int .i64 0, .slice none 0 0, .int .i64 0]) ?_ 1 _ rfl; (with_reducible repeat (first | refine blk_drewN ?_ _ | refine blk_drew ?_ | refine blk_alloc ?_ _)); refine blk_put (cs := #[.int .i64 0, .int .i64 0, .slice none 0 0, .int .i64 0]) ?_ 0 _ rfl; (with_reducible repeat (first | refine blk_drewN ?_ _ | refine blk_drew ?_ | refine blk_alloc ?_ _)); exact BK603.out) hb); have n6_ := Aside0.mk (below_step (by repeat (first | (with_reducible first | exact HB.out | apply below_alloc | apply pw_below_drewN | apply below_drew1 | refine below_set ?_ GE582.out | refine below_set ?_ GE583.out | refine below_set ?_ GE593.out | refine below_set ?_ GE603.out) | exact HB.out)) hb); clear HO588; clear HO598; clear BK582; clear BK583; clear BK593; clear BK603; clear HB; have HO588 := n0_; have HO598 := n1_; have BK582 := n2_; have BK583 := n3_; have BK593 := n4_; have BK603 := n5_; have HB := n6_; clear n0_ n1_ n2_ n3_ n4_ n5_ n6_; (try clear hb); (try clear hb2); (try clear hk); (try clear hi)) | (go_at_call 24; (with_reducible refine (rialtolaw08_live.calls k  t605 _ A11.out).mono ?_); rintro e wyi1 ⟨rfl, hb⟩; have n0_ := Aside0.mk (Kd.R_below (by (with_reducible repeat (first | apply Kd.R_alloc | apply Kd.R_drewN | apply Kd.R_drew)); exact HO588.out) hb); have n1_ := Aside0.mk (Kd.R_below (by (with_reducible repeat (first | apply Kd.R_alloc | apply Kd.R_drewN | apply Kd.R_drew)); exact HO598.out) hb); have n2_ := Aside0.mk (blk_below (g := gb582) (o := .cells #[.int .i64 a0_0, .int .i64 a0_1, .slice A0_2 l0_2.length c0_2, .int .i64 a0_3] 26 (0, 0)) (by (with_reducible repeat (first | refine blk_drewN ?_ _ | refine blk_drew ?_ | refine blk_alloc ?_ _)); exact BK582.out) hb); have n3_ := Aside0.mk (blk_below (g := gb583) (o := .cells #[.int .i64 a1_0, .int .i64 a1_1, .slice A1_2 l1_2.length c1_2, .int .i64 a1_3] 41 (0, 0)) (by (with_reducible repeat (first | refine blk_drewN ?_ _ | refine blk_drew ?_ | refine blk_alloc ?_ _)); exact BK583.out) hb); have n4_ := Aside0.mk (blk_below (g := gb593) (o := .cells #[.int .i64 t584, .int .i64 t585, .slice Aox5i0 t586.length cox5i0, .int .i64 t589] 26 (0, 0)) (by (with_reducible repeat (first | refine blk_drewN ?_ _ | refine blk_drew ?_ | refine blk_alloc ?_ _)); exact BK593.out) hb); have n5_ := Aside0.mk (blk_below (g := gb603) (o := .cells #[.int .i64 t594, .int .i64 t595, .slice Aox9i0 t596.length cox9i0, .int .i64 t599] 26 (0, 0)) (by (with_reducible repeat (first | refine blk_drewN ?_ _ | refine blk_drew ?_ | refine blk_alloc ?_ _)); exact BK603.out) hb); have n6_ := Aside0.mk (below_step (by repeat (first | (with_reducible first | exact HB.out | apply below_alloc | apply pw_below_drewN | apply below_drew1 | refine below_set ?_ GE582.out | refine below_set ?_ GE583.out | refine below_set ?_ GE593.out | refine below_set ?_ GE603.out) | exact HB.out)) hb); clear HO588; clear HO598; clear BK582; clear BK583; clear BK593; clear BK603; clear HB; have HO588 := n0_; have HO598 := n1_; have BK582 := n2_; have BK583 := n3_; have BK593 := n4_; have BK603 := n5_; have HB := n6_; clear n0_ n1_ n2_ n3_ n4_ n5_ n6_; (try clear hb); (try clear hb2); (try clear hk); (try clear hi)))
            go_ret
            exact ⟨by first | rfl | (simp [errW_none, errW_some] <;> rfl) | (simp [*, errW_none, errW_some] <;> rfl), by repeat (first | (with_reducible first | exact HB.out | apply below_alloc | apply pw_below_drewN | apply below_drew1 | refine below_set ?_ GE582.out | refine below_set ?_ GE583.out | refine below_set ?_ GE593.out | refine below_set ?_ GE603.out) | exact HB.out)⟩
        · rw [if_neg c8] at H
          have c8b0 : (t591 == t601) = false := by simpa using c8
          (try (have c8b1 : decide (t591 = t601) = false := by simpa using c8))
          (try (have c8b2 : (t591 == t601) = false := by simpa using c8))
          (try (have c8b3 : ¬ (t591 = t601) := by simpa using c8))
          clear c8
          obtain rfl := Option.some.inj H
          go_enter Try.func8, Try.ntmps8
          go_wp2_with (first | ((with_reducible refine gate_dst (N := 2) rfl ?_); refine box_event ?hg (N := 2) ?hd (cs := #[.int .i64 a0_0, .int .i64 a0_1, .slice A0_2 l0_2.length c0_2, .int .i64 a0_3]) (t := 26) ?hr ?_; (case hd => rfl); (case hg => rfl); (case hr => first | (go_simp; done) | (go_simp; rfl)); intro gb582 hg w55 hbox hb; have n0_ := Aside0.mk (below_step (by repeat (first | (with_reducible first | exact HB.out | apply below_alloc | apply pw_below_drewN | apply below_drew1) | exact HB.out)) hb); have n1_ := Aside0.mk (hbox); have n2_ := Aside0.mk ((by rw [hg]; exact (below_size (by repeat (first | (with_reducible first | exact HB.out | apply below_alloc | apply pw_below_drewN | apply below_drew1) | exact HB.out))) : w.heap.size ≤ gb582)); have n3_ := Aside0.mk ((by rw [hg]; exact (below_size (by repeat (first | (with_reducible first | exact HB.out | apply below_alloc | apply pw_below_drewN | apply below_drew1) | exact HB.out))) : w.heap.size ≤ gb582)); clear HB; have HB := n0_; have BK582 := n1_; have GW582 := n2_; have GE582 := n3_; clear n0_ n1_ n2_ n3_; clear hb hbox hg) | ((with_reducible refine gate_dst (N := 3) rfl ?_); refine box_event ?hg (N := 3) ?hd (cs := #[.int .i64 a1_0, .int .i64 a1_1, .slice A1_2 l1_2.length c1_2, .int .i64 a1_3]) (t := 41) ?hr ?_; (case hd => rfl); (case hg => rfl); (case hr => first | (go_simp; done) | (go_simp; rfl)); intro gb583 hg w56 hbox hb; have n0_ := Aside0.mk (blk_below (g := gb582) (o := .cells #[.int .i64 a0_0, .int .i64 a0_1, .slice A0_2 l0_2.length c0_2, .int .i64 a0_3] 26 (0, 0)) (by (with_reducible repeat (first | refine blk_drewN ?_ _ | refine blk_drew ?_ | refine blk_alloc ?_ _)); exact BK582.out) hb); have n1_ := Aside0.mk (below_step (by repeat (first | (with_reducible first | exact HB.out | apply below_alloc | apply pw_below_drewN | apply below_drew1 | refine below_set ?_ GE582.out) | exact HB.out)) hb); have n2_ := Aside0.mk (hbox); have n3_ := Aside0.mk ((by rw [hg]; exact (below_size (by repeat (first | (with_reducible first | exact HB.out | apply below_alloc | apply pw_below_drewN | apply below_drew1 | refine below_set ?_ GE582.out) | exact HB.out))) : w.heap.size ≤ gb583)); have n4_ := Aside0.mk ((by rw [hg]; exact (below_size (by repeat (first | (with_reducible first | exact HB.out | apply below_alloc | apply pw_below_drewN | apply below_drew1 | refine below_set ?_ GE582.out) | exact HB.out))) : w.heap.size ≤ gb583)); have n5_ := Aside0.mk ((by rw [hg]; exact Nat.ne_of_lt (blk_lt (g := gb582) (o := .cells #[.int .i64 a0_0, .int .i64 a0_1, .slice A0_2 l0_2.length c0_2, .int .i64 a0_3] 26 (0, 0)) (by (with_reducible repeat (first | refine blk_drewN ?_ _ | refine blk_drew ?_ | refine blk_alloc ?_ _)); exact BK582.out)) : gb582 ≠ gb583)); have n6_ := Aside0.mk ((by rw [hg]; exact Nat.ne_of_gt (blk_lt (g := gb582) (o := .cells #[.int .i64 a0_0, .int .i64 a0_1, .slice A0_2 l0_2.length c0_2, .int .i64 a0_3] 26 (0, 0)) (by (with_reducible repeat (first | refine blk_drewN ?_ _ | refine blk_drew ?_ | refine blk_alloc ?_ _)); exact BK582.out)) : gb583 ≠ gb582)); clear BK582; clear HB; have BK582 := n0_; have HB := n1_; have BK583 := n2_; have GW583 := n3_; have GE583 := n4_; have NB582_583 := n5_; have NB583_582 := n6_; clear n0_ n1_ n2_ n3_ n4_ n5_ n6_; clear hb hbox hg; have hnb57 := NB582_583.out; have hnc57 := NB583_582.out; have hcz58_0 : w56.cell? ⟨gb582, 0, none⟩ = some (.int .i64 a0_0) := (blk_cell BK582.out 0).trans rfl; have hcz58_1 : w56.cell? ⟨gb582, 1, none⟩ = some (.int .i64 a0_1) := (blk_cell BK582.out 1).trans rfl; have hcz58_2 : w56.cell? ⟨gb582, 2, none⟩ = some (.slice A0_2 l0_2.length c0_2) := (blk_cell BK582.out 2).trans rfl; have hcz58_3 : w56.cell? ⟨gb582, 3, none⟩ = some (.int .i64 a0_3) := (blk_cell BK582.out 3).trans rfl; have hfz58_0 := blk_frozen BK582.out 0; have hfz58_1 := blk_frozen BK582.out 1; have hfz58_2 := blk_frozen BK582.out 2; have hfz58_3 := blk_frozen BK582.out 3; have hcz59_0 : w56.cell? ⟨gb583, 0, none⟩ = some (.int .i64 a1_0) := (blk_cell BK583.out 0).trans rfl; have hcz59_1 : w56.cell? ⟨gb583, 1, none⟩ = some (.int .i64 a1_1) := (blk_cell BK583.out 1).trans rfl; have hcz59_2 : w56.cell? ⟨gb583, 2, none⟩ = some (.slice A1_2 l1_2.length c1_2) := (blk_cell BK583.out 2).trans rfl; have hcz59_3 : w56.cell? ⟨gb583, 3, none⟩ = some (.int .i64 a1_3) := (blk_cell BK583.out 3).trans rfl; have hfz59_0 := blk_frozen BK583.out 0; have hfz59_1 := blk_frozen BK583.out 1; have hfz59_2 := blk_frozen BK583.out 2; have hfz59_3 := blk_frozen BK583.out 3) | ((with_reducible refine gate_callee (f := 20) rfl ?_); refine goesL_ (some 21) rfl rfl Try.func20 (by kernel_rfl) rfl #[.agg #[.int .i64 a0_0, .int .i64 a0_1, .slice A0_2 l0_2.length c0_2, .int .i64 a0_3], .agg #[.int .i64 a1_0, .int .i64 a1_1], .slice A1_2 l1_2.length c1_2, .int .i64 a1_3] rfl (by (try simp only [List.map_toArray, List.map_cons, List.map_nil]); first | done | rfl | (simp only [List.length_drop, List.length_take]; rfl)) ?_; (with_reducible refine (entries_Accept.calls k a0_0 a0_1 _ _ l0_2 a0_3 a1_0 a1_1 _ _ l1_2 a1_3 t584 t585 t586 t589 t590 t591 t592 _ ?side1 ?side2 ?side3 ?side4 A3.out).mono ?_); (case side1 => repeat (first | exact (Kd.C_below HR0_2.out HB.out) | (with_reducible refine Kd.C_alloc ?_ _) | (with_reducible refine Kd.C_drewN ?_ _) | (with_reducible refine Kd.C_drew ?_))); (case side2 => exact HC0_2.out); (case side3 => repeat (first | exact (Kd.C_below HR1_2.out HB.out) | (with_reducible refine Kd.C_alloc ?_ _) | (with_reducible refine Kd.C_drewN ?_ _) | (with_reducible refine Kd.C_drew ?_))); (case side4 => exact HC1_2.out); rintro e w60 ⟨v587, rfl, ho0, hb⟩; refine ⟨_, rfl, ?_⟩; have n0_ := Aside0.mk (Kd.R_lower ho0 (below_size (by repeat (first | (with_reducible first | exact HB.out | apply below_alloc | apply pw_below_drewN | apply below_drew1 | refine below_set ?_ GE582.out | refine below_set ?_ GE583.out) | exact HB.out)))); have n1_ := Aside0.mk (blk_below (g := gb582) (o := .cells #[.int .i64 a0_0, .int .i64 a0_1, .slice A0_2 l0_2.length c0_2, .int .i64 a0_3] 26 (0, 0)) (by (with_reducible repeat (first | refine blk_drewN ?_ _ | refine blk_drew ?_ | refine blk_alloc ?_ _)); exact BK582.out) hb); have n2_ := Aside0.mk (blk_below (g := gb583) (o := .cells #[.int .i64 a1_0, .int .i64 a1_1, .slice A1_2 l1_2.length c1_2, .int .i64 a1_3] 41 (0, 0)) (by (with_reducible repeat (first | refine blk_drewN ?_ _ | refine blk_drew ?_ | refine blk_alloc ?_ _)); exact BK583.out) hb); have n3_ := Aside0.mk (below_step (by repeat (first | (with_reducible first | exact HB.out | apply below_alloc | apply pw_below_drewN | apply below_drew1 | refine below_set ?_ GE582.out | refine below_set ?_ GE583.out) | exact HB.out)) hb); clear BK582; clear BK583; clear HB; have HO588 := n0_; have BK582 := n1_; have BK583 := n2_; have HB := n3_; clear n0_ n1_ n2_ n3_; (try clear hb); (try clear hb2); (try clear hk); (try clear hi); (try clear ho0)) | ((with_reducible refine gate_dst (N := 5) rfl ?_); refine box_event ?hg (N := 5) ?hd (cs := #[.int .i64 0, .int .i64 0, .slice none 0 0, .int .i64 0]) (t := 26) ?hr ?_; (case hd => rfl); (case hg => rfl); (case hr => first | (go_simp; done) | (go_simp; rfl)); intro gb593 hg w61 hbox hb; have n0_ := Aside0.mk (Kd.R_below (by (with_reducible repeat (first | apply Kd.R_alloc | apply Kd.R_drewN | apply Kd.R_drew)); exact HO588.out) hb); have n1_ := Aside0.mk (blk_below (g := gb582) (o := .cells #[.int .i64 a0_0, .int .i64 a0_1, .slice A0_2 l0_2.length c0_2, .int .i64 a0_3] 26 (0, 0)) (by (with_reducible repeat (first | refine blk_drewN ?_ _ | refine blk_drew ?_ | refine blk_alloc ?_ _)); exact BK582.out) hb); have n2_ := Aside0.mk (blk_below (g := gb583) (o := .cells #[.int .i64 a1_0, .int .i64 a1_1, .slice A1_2 l1_2.length c1_2, .int .i64 a1_3] 41 (0, 0)) (by (with_reducible repeat (first | refine blk_drewN ?_ _ | refine blk_drew ?_ | refine blk_alloc ?_ _)); exact BK583.out) hb); have n3_ := Aside0.mk (below_step (by repeat (first | (with_reducible first | exact HB.out | apply below_alloc | apply pw_below_drewN | apply below_drew1 | refine below_set ?_ GE582.out | refine below_set ?_ GE583.out) | exact HB.out)) hb); have n4_ := Aside0.mk (hbox); have n5_ := Aside0.mk ((by rw [hg]; exact (below_size (by repeat (first | (with_reducible first | exact HB.out | apply below_alloc | apply pw_below_drewN | apply below_drew1 | refine below_set ?_ GE582.out | refine below_set ?_ GE583.out) | exact HB.out))) : w.heap.size ≤ gb593)); have n6_ := Aside0.mk ((by rw [hg]; exact (below_size (by repeat (first | (with_reducible first | exact HB.out | apply below_alloc | apply pw_below_drewN | apply below_drew1 | refine below_set ?_ GE582.out | refine below_set ?_ GE583.out) | exact HB.out))) : w.heap.size ≤ gb593)); have n7_ := Aside0.mk ((by rw [hg]; exact Nat.ne_of_lt (blk_lt (g := gb582) (o := .cells #[.int .i64 a0_0, .int .i64 a0_1, .slice A0_2 l0_2.length c0_2, .int .i64 a0_3] 26 (0, 0)) (by (with_reducible repeat (first | refine blk_drewN ?_ _ | refine blk_drew ?_ | refine blk_alloc ?_ _)); exact BK582.out)) : gb582 ≠ gb593)); have n8_ := Aside0.mk ((by rw [hg]; exact Nat.ne_of_gt (blk_lt (g := gb582) (o := .cells #[.int .i64 a0_0, .int .i64 a0_1, .slice A0_2 l0_2.length c0_2, .int .i64 a0_3] 26 (0, 0)) (by (with_reducible repeat (first | refine blk_drewN ?_ _ | refine blk_drew ?_ | refine blk_alloc ?_ _)); exact BK582.out)) : gb593 ≠ gb582)); have n9_ := Aside0.mk ((by rw [hg]; exact Nat.ne_of_lt (blk_lt (g := gb583) (o := .cells #[.int .i64 a1_0, .int .i64 a1_1, .slice A1_2 l1_2.length c1_2, .int .i64 a1_3] 41 (0, 0)) (by (with_reducible repeat (first | refine blk_drewN ?_ _ | refine blk_drew ?_ | refine blk_alloc ?_ _)); exact BK583.out)) : gb583 ≠ gb593)); have n10_ := Aside0.mk ((by rw [hg]; exact Nat.ne_of_gt (blk_lt (g := gb583) (o := .cells #[.int .i64 a1_0, .int .i64 a1_1, .slice A1_2 l1_2.length c1_2, .int .i64 a1_3] 41 (0, 0)) (by (with_reducible repeat (first | refine blk_drewN ?_ _ | refine blk_drew ?_ | refine blk_alloc ?_ _)); exact BK583.out)) : gb593 ≠ gb583)); clear HO588; clear BK582; clear BK583; clear HB; have HO588 := n0_; have BK582 := n1_; have BK583 := n2_; have HB := n3_; have BK593 := n4_; have GW593 := n5_; have GE593 := n6_; have NB582_593 := n7_; have NB593_582 := n8_; have NB583_593 := n9_; have NB593_583 := n10_; clear n0_ n1_ n2_ n3_ n4_ n5_ n6_ n7_ n8_ n9_ n10_; clear hb hbox hg; have hnb62 := NB593_582.out; have hnc62 := NB582_593.out; have hnb63 := NB593_583.out; have hnc63 := NB583_593.out; have hcz64_0 : w61.cell? ⟨gb593, 0, none⟩ = some (.int .i64 0) := (blk_cell BK593.out 0).trans rfl; have hcz64_1 : w61.cell? ⟨gb593, 1, none⟩ = some (.int .i64 0) := (blk_cell BK593.out 1).trans rfl; have hcz64_2 : w61.cell? ⟨gb593, 2, none⟩ = some (.slice none 0 0) := (blk_cell BK593.out 2).trans rfl; have hcz64_3 : w61.cell? ⟨gb593, 3, none⟩ = some (.int .i64 0) := (blk_cell BK593.out 3).trans rfl; have hfz64_0 := blk_frozen BK593.out 0; have hfz64_1 := blk_frozen BK593.out 1; have hfz64_2 := blk_frozen BK593.out 2; have hfz64_3 := blk_frozen BK593.out 3; obtain ⟨Ao65, co65, eo65⟩ := Kd.R_slice HO588.out; subst eo65; have hcz66_0 : w61.cell? ⟨gb583, 0, none⟩ = some (.int .i64 a1_0) := (blk_cell BK583.out 0).trans rfl; have hcz66_1 : w61.cell? ⟨gb583, 1, none⟩ = some (.int .i64 a1_1) := (blk_cell BK583.out 1).trans rfl; have hcz66_2 : w61.cell? ⟨gb583, 2, none⟩ = some (.slice A1_2 l1_2.length c1_2) := (blk_cell BK583.out 2).trans rfl; have hcz66_3 : w61.cell? ⟨gb583, 3, none⟩ = some (.int .i64 a1_3) := (blk_cell BK583.out 3).trans rfl; have hfz66_0 := blk_frozen BK583.out 0; have hfz66_1 := blk_frozen BK583.out 1; have hfz66_2 := blk_frozen BK583.out 2; have hfz66_3 := blk_frozen BK583.out 3) | ((with_reducible refine gate_callee (f := 20) rfl ?_); refine goesL_ (some 37) rfl rfl Try.func20 (by kernel_rfl) rfl #[.agg #[.int .i64 t584, .int .i64 t585, .slice Ao65 t586.length co65, .int .i64 t589], .agg #[.int .i64 a1_0, .int .i64 a1_1], .slice A1_2 l1_2.length c1_2, .int .i64 a1_3] rfl (by (try simp only [List.map_toArray, List.map_cons, List.map_nil]); first | done | rfl | (simp only [List.length_drop, List.length_take]; rfl)) ?_; (with_reducible refine (entries_Accept.calls k t584 t585 _ _ t586 t589 a1_0 a1_1 _ _ l1_2 a1_3 t594 t595 t596 t599 t600 t601 t602 _ ?side1 ?side2 ?side3 ?side4 A5.out).mono ?_); (case side1 => refine (Kd.R_reads' (e := 33) (base := w.heap.size) (ok := fun k_ => True) (n := t586.length) (c := co65) ?_).2.2; exact (by (with_reducible repeat (first | apply Kd.R_alloc | apply Kd.R_drewN | apply Kd.R_drew)); exact (Kd.R_mono (Kd.R_far (p := ⟨gb593, 3, none⟩) (Kd.R_far (p := ⟨gb593, 2, none⟩) (Kd.R_far (p := ⟨gb593, 1, none⟩) (Kd.R_far (p := ⟨gb593, 0, none⟩) (Kd.R_types HO588.out BK593.out (by decide)) (fun _ hk => hk.2) (.int .i64 t584)) (fun _ hk => hk.2) (.int .i64 t585)) (fun _ hk => hk.2) (.slice Ao65 t586.length co65)) (fun _ hk => hk.2) (.int .i64 t589)) (fun _ h_ => h_.1)))); (case side2 => exact (Kd.R_reads' HO588.out).2.1); (case side3 => exact Kd.C_below HR1_2.out (by repeat (first | (with_reducible first | exact HB.out | apply below_alloc | apply pw_below_drewN | apply below_drew1 | refine below_set ?_ GE582.out | refine below_set ?_ GE583.out | refine below_set ?_ GE593.out) | exact HB.out))); (case side4 => exact HC1_2.out); rintro e w67 ⟨v597, rfl, ho0, hb⟩; refine ⟨_, rfl, ?_⟩; have n0_ := Aside0.mk (Kd.R_elder' (by (with_reducible repeat (first | apply Kd.R_alloc | apply Kd.R_drewN | apply Kd.R_drew)); exact (Kd.R_mono (Kd.R_far (p := ⟨gb593, 3, none⟩) (Kd.R_far (p := ⟨gb593, 2, none⟩) (Kd.R_far (p := ⟨gb593, 1, none⟩) (Kd.R_far (p := ⟨gb593, 0, none⟩) (Kd.R_types HO588.out BK593.out (by decide)) (fun _ hk => hk.2) (.int .i64 t584)) (fun _ hk => hk.2) (.int .i64 t585)) (fun _ hk => hk.2) (.slice Ao65 t586.length co65)) (fun _ hk => hk.2) (.int .i64 t589)) (fun _ h_ => h_.1))) (Kd.R_base ho0) hb); have n1_ := Aside0.mk (Kd.R_lower (Kd.R_new' ho0 (Kd.R_lt (by (with_reducible repeat (first | apply Kd.R_alloc | apply Kd.R_drewN | apply Kd.R_drew)); exact (Kd.R_mono (Kd.R_far (p := ⟨gb593, 3, none⟩) (Kd.R_far (p := ⟨gb593, 2, none⟩) (Kd.R_far (p := ⟨gb593, 1, none⟩) (Kd.R_far (p := ⟨gb593, 0, none⟩) (Kd.R_types HO588.out BK593.out (by decide)) (fun _ hk => hk.2) (.int .i64 t584)) (fun _ hk => hk.2) (.int .i64 t585)) (fun _ hk => hk.2) (.slice Ao65 t586.length co65)) (fun _ hk => hk.2) (.int .i64 t589)) (fun _ h_ => h_.1))))) (below_size (by repeat (first | (with_reducible first | exact HB.out | apply below_alloc | apply pw_below_drewN | apply below_drew1 | refine below_set ?_ GE582.out | refine below_set ?_ GE583.out | refine below_set ?_ GE593.out) | exact HB.out)))); have n2_ := Aside0.mk (blk_below (g := gb582) (o := .cells #[.int .i64 a0_0, .int .i64 a0_1, .slice A0_2 l0_2.length c0_2, .int .i64 a0_3] 26 (0, 0)) (by (with_reducible repeat (first | refine blk_drewN ?_ _ | refine blk_drew ?_ | refine blk_alloc ?_ _)); refine blk_far ?_ NB582_593.out _; (with_reducible repeat (first | refine blk_drewN ?_ _ | refine blk_drew ?_ | refine blk_alloc ?_ _)); refine blk_far ?_ NB582_593.out _; (with_reducible repeat (first | refine blk_drewN ?_ _ | refine blk_drew ?_ | refine blk_alloc ?_ _)); refine blk_far ?_ NB582_593.out _; (with_reducible repeat (first | refine blk_drewN ?_ _ | refine blk_drew ?_ | refine blk_alloc ?_ _)); refine blk_far ?_ NB582_593.out _; (with_reducible repeat (first | refine blk_drewN ?_ _ | refine blk_drew ?_ | refine blk_alloc ?_ _)); exact BK582.out) hb); have n3_ := Aside0.mk (blk_below (g := gb583) (o := .cells #[.int .i64 a1_0, .int .i64 a1_1, .slice A1_2 l1_2.length c1_2, .int .i64 a1_3] 41 (0, 0)) (by (with_reducible repeat (first | refine blk_drewN ?_ _ | refine blk_drew ?_ | refine blk_alloc ?_ _)); refine blk_far ?_ NB583_593.out _; (with_reducible repeat (first | refine blk_drewN ?_ _ | refine blk_drew ?_ | refine blk_alloc ?_ _)); refine blk_far ?_ NB583_593.out _; (with_reducible repeat (first | refine blk_drewN ?_ _ | refine blk_drew ?_ | refine blk_alloc ?_ _)); refine blk_far ?_ NB583_593.out _; (with_reducible repeat (first | refine blk_drewN ?_ _ | refine blk_drew ?_ | refine blk_alloc ?_ _)); refine blk_far ?_ NB583_593.out _; (with_reducible repeat (first | refine blk_drewN ?_ _ | refine blk_drew ?_ | refine blk_alloc ?_ _)); exact BK583.out) hb); have n4_ := Aside0.mk (blk_below (g := gb593) (o := .cells #[.int .i64 t584, .int .i64 t585, .slice Ao65 t586.length co65, .int .i64 t589] 26 (0, 0)) (by (with_reducible repeat (first | refine blk_drewN ?_ _ | refine blk_drew ?_ | refine blk_alloc ?_ _)); refine blk_put (cs := #[.int .i64 t584, .int .i64 t585, .slice Ao65 t586.length co65, .int .i64 0]) ?_ 3 _ rfl; (with_reducible repeat (first | refine blk_drewN ?_ _ | refine blk_drew ?_ | refine blk_alloc ?_ _)); refine blk_put (cs := #[.int .i64 t584, .int .i64 t585, .slice none 0 0, .int .i64 0]) ?_ 2 _ rfl; (with_reducible repeat (first | refine blk_drewN ?_ _ | refine blk_drew ?_ | refine blk_alloc ?_ _)); refine blk_put (cs := #[.int .i64 t584, .int .i64 0, .slice none 0 0, .int .i64 0]) ?_ 1 _ rfl; (with_reducible repeat (first | refine blk_drewN ?_ _ | refine blk_drew ?_ | refine blk_alloc ?_ _)); refine blk_put (cs := #[.int .i64 0, .int .i64 0, .slice none 0 0, .int .i64 0]) ?_ 0 _ rfl; (with_reducible repeat (first | refine blk_drewN ?_ _ | refine blk_drew ?_ | refine blk_alloc ?_ _)); exact BK593.out) hb); have n5_ := Aside0.mk (below_step (by repeat (first | (with_reducible first | exact HB.out | apply below_alloc | apply pw_below_drewN | apply below_drew1 | refine below_set ?_ GE582.out | refine below_set ?_ GE583.out | refine below_set ?_ GE593.out) | exact HB.out)) hb); clear HO588; clear BK582; clear BK583; clear BK593; clear HB; have HO588 := n0_; have HO598 := n1_; have BK582 := n2_; have BK583 := n3_; have BK593 := n4_; have HB := n5_; clear n0_ n1_ n2_ n3_ n4_ n5_; (try clear hb); (try clear hb2); (try clear hk); (try clear hi); (try clear ho0)) | ((with_reducible refine gate_dst (N := 9) rfl ?_); refine box_event ?hg (N := 9) ?hd (cs := #[.int .i64 0, .int .i64 0, .slice none 0 0, .int .i64 0]) (t := 26) ?hr ?_; (case hd => rfl); (case hg => rfl); (case hr => first | (go_simp; done) | (go_simp; rfl)); intro gb603 hg w68 hbox hb; have n0_ := Aside0.mk (Kd.R_below (by (with_reducible repeat (first | apply Kd.R_alloc | apply Kd.R_drewN | apply Kd.R_drew)); exact HO588.out) hb); have n1_ := Aside0.mk (Kd.R_below (by (with_reducible repeat (first | apply Kd.R_alloc | apply Kd.R_drewN | apply Kd.R_drew)); exact HO598.out) hb); have n2_ := Aside0.mk (blk_below (g := gb582) (o := .cells #[.int .i64 a0_0, .int .i64 a0_1, .slice A0_2 l0_2.length c0_2, .int .i64 a0_3] 26 (0, 0)) (by (with_reducible repeat (first | refine blk_drewN ?_ _ | refine blk_drew ?_ | refine blk_alloc ?_ _)); exact BK582.out) hb); have n3_ := Aside0.mk (blk_below (g := gb583) (o := .cells #[.int .i64 a1_0, .int .i64 a1_1, .slice A1_2 l1_2.length c1_2, .int .i64 a1_3] 41 (0, 0)) (by (with_reducible repeat (first | refine blk_drewN ?_ _ | refine blk_drew ?_ | refine blk_alloc ?_ _)); exact BK583.out) hb); have n4_ := Aside0.mk (blk_below (g := gb593) (o := .cells #[.int .i64 t584, .int .i64 t585, .slice Ao65 t586.length co65, .int .i64 t589] 26 (0, 0)) (by (with_reducible repeat (first | refine blk_drewN ?_ _ | refine blk_drew ?_ | refine blk_alloc ?_ _)); exact BK593.out) hb); have n5_ := Aside0.mk (below_step (by repeat (first | (with_reducible first | exact HB.out | apply below_alloc | apply pw_below_drewN | apply below_drew1 | refine below_set ?_ GE582.out | refine below_set ?_ GE583.out | refine below_set ?_ GE593.out) | exact HB.out)) hb); have n6_ := Aside0.mk (hbox); have n7_ := Aside0.mk ((by rw [hg]; exact (below_size (by repeat (first | (with_reducible first | exact HB.out | apply below_alloc | apply pw_below_drewN | apply below_drew1 | refine below_set ?_ GE582.out | refine below_set ?_ GE583.out | refine below_set ?_ GE593.out) | exact HB.out))) : w.heap.size ≤ gb603)); have n8_ := Aside0.mk ((by rw [hg]; exact (below_size (by repeat (first | (with_reducible first | exact HB.out | apply below_alloc | apply pw_below_drewN | apply below_drew1 | refine below_set ?_ GE582.out | refine below_set ?_ GE583.out | refine below_set ?_ GE593.out) | exact HB.out))) : w.heap.size ≤ gb603)); have n9_ := Aside0.mk ((by rw [hg]; exact Nat.ne_of_lt (blk_lt (g := gb582) (o := .cells #[.int .i64 a0_0, .int .i64 a0_1, .slice A0_2 l0_2.length c0_2, .int .i64 a0_3] 26 (0, 0)) (by (with_reducible repeat (first | refine blk_drewN ?_ _ | refine blk_drew ?_ | refine blk_alloc ?_ _)); exact BK582.out)) : gb582 ≠ gb603)); have n10_ := Aside0.mk ((by rw [hg]; exact Nat.ne_of_gt (blk_lt (g := gb582) (o := .cells #[.int .i64 a0_0, .int .i64 a0_1, .slice A0_2 l0_2.length c0_2, .int .i64 a0_3] 26 (0, 0)) (by (with_reducible repeat (first | refine blk_drewN ?_ _ | refine blk_drew ?_ | refine blk_alloc ?_ _)); exact BK582.out)) : gb603 ≠ gb582)); have n11_ := Aside0.mk ((by rw [hg]; exact Nat.ne_of_lt (blk_lt (g := gb583) (o := .cells #[.int .i64 a1_0, .int .i64 a1_1, .slice A1_2 l1_2.length c1_2, .int .i64 a1_3] 41 (0, 0)) (by (with_reducible repeat (first | refine blk_drewN ?_ _ | refine blk_drew ?_ | refine blk_alloc ?_ _)); exact BK583.out)) : gb583 ≠ gb603)); have n12_ := Aside0.mk ((by rw [hg]; exact Nat.ne_of_gt (blk_lt (g := gb583) (o := .cells #[.int .i64 a1_0, .int .i64 a1_1, .slice A1_2 l1_2.length c1_2, .int .i64 a1_3] 41 (0, 0)) (by (with_reducible repeat (first | refine blk_drewN ?_ _ | refine blk_drew ?_ | refine blk_alloc ?_ _)); exact BK583.out)) : gb603 ≠ gb583)); have n13_ := Aside0.mk ((by rw [hg]; exact Nat.ne_of_lt (blk_lt (g := gb593) (o := .cells #[.int .i64 t584, .int .i64 t585, .slice Ao65 t586.length co65, .int .i64 t589] 26 (0, 0)) (by (with_reducible repeat (first | refine blk_drewN ?_ _ | refine blk_drew ?_ | refine blk_alloc ?_ _)); exact BK593.out)) : gb593 ≠ gb603)); have n14_ := Aside0.mk ((by rw [hg]; exact Nat.ne_of_gt (blk_lt (g := gb593) (o := .cells #[.int .i64 t584, .int .i64 t585, .slice Ao65 t586.length co65, .int .i64 t589] 26 (0, 0)) (by (with_reducible repeat (first | refine blk_drewN ?_ _ | refine blk_drew ?_ | refine blk_alloc ?_ _)); exact BK593.out)) : gb603 ≠ gb593)); clear HO588; clear HO598; clear BK582; clear BK583; clear BK593; clear HB; have HO588 := n0_; have HO598 := n1_; have BK582 := n2_; have BK583 := n3_; have BK593 := n4_; have HB := n5_; have BK603 := n6_; have GW603 := n7_; have GE603 := n8_; have NB582_603 := n9_; have NB603_582 := n10_; have NB583_603 := n11_; have NB603_583 := n12_; have NB593_603 := n13_; have NB603_593 := n14_; clear n0_ n1_ n2_ n3_ n4_ n5_ n6_ n7_ n8_ n9_ n10_ n11_ n12_ n13_ n14_; clear hb hbox hg; have hnb69 := NB603_582.out; have hnc69 := NB582_603.out; have hnb70 := NB603_583.out; have hnc70 := NB583_603.out; have hnb71 := NB603_593.out; have hnc71 := NB593_603.out; have hcz72_0 : w68.cell? ⟨gb603, 0, none⟩ = some (.int .i64 0) := (blk_cell BK603.out 0).trans rfl; have hcz72_1 : w68.cell? ⟨gb603, 1, none⟩ = some (.int .i64 0) := (blk_cell BK603.out 1).trans rfl; have hcz72_2 : w68.cell? ⟨gb603, 2, none⟩ = some (.slice none 0 0) := (blk_cell BK603.out 2).trans rfl; have hcz72_3 : w68.cell? ⟨gb603, 3, none⟩ = some (.int .i64 0) := (blk_cell BK603.out 3).trans rfl; have hfz72_0 := blk_frozen BK603.out 0; have hfz72_1 := blk_frozen BK603.out 1; have hfz72_2 := blk_frozen BK603.out 2; have hfz72_3 := blk_frozen BK603.out 3; obtain ⟨Ao73, co73, eo73⟩ := Kd.R_slice HO598.out; subst eo73))
          go_ret
          exact ⟨by first | rfl | (simp [errW_none, errW_some] <;> rfl) | (simp [*, errW_none, errW_some] <;> rfl), by repeat (first | (with_reducible first | exact HB.out | apply below_alloc | apply pw_below_drewN | apply below_drew1 | refine below_set ?_ GE582.out | refine below_set ?_ GE583.out | refine below_set ?_ GE593.out | refine below_set ?_ GE603.out) | exact HB.out)⟩
      · rw [if_neg c7] at H
        have c7b0 : (t590 == t600) = false := beq_eq_false_iff_ne.mpr c7
        have c7b1 : (t590 != t600) = true := bne_iff_ne.mpr c7
        obtain rfl := Option.some.inj H
        go_enter Try.func8, Try.ntmps8
        go_wp2_with (first | ((with_reducible refine gate_dst (N := 2) rfl ?_); refine box_event ?hg (N := 2) ?hd (cs := #[.int .i64 a0_0, .int .i64 a0_1, .slice A0_2 l0_2.length c0_2, .int .i64 a0_3]) (t := 26) ?hr ?_; (case hd => rfl); (case hg => rfl); (case hr => first | (go_simp; done) | (go_simp; rfl)); intro gb582 hg w74 hbox hb; have n0_ := Aside0.mk (below_step (by repeat (first | (with_reducible first | exact HB.out | apply below_alloc | apply pw_below_drewN | apply below_drew1) | exact HB.out)) hb); have n1_ := Aside0.mk (hbox); have n2_ := Aside0.mk ((by rw [hg]; exact (below_size (by repeat (first | (with_reducible first | exact HB.out | apply below_alloc | apply pw_below_drewN | apply below_drew1) | exact HB.out))) : w.heap.size ≤ gb582)); have n3_ := Aside0.mk ((by rw [hg]; exact (below_size (by repeat (first | (with_reducible first | exact HB.out | apply below_alloc | apply pw_below_drewN | apply below_drew1) | exact HB.out))) : w.heap.size ≤ gb582)); clear HB; have HB := n0_; have BK582 := n1_; have GW582 := n2_; have GE582 := n3_; clear n0_ n1_ n2_ n3_; clear hb hbox hg) | ((with_reducible refine gate_dst (N := 3) rfl ?_); refine box_event ?hg (N := 3) ?hd (cs := #[.int .i64 a1_0, .int .i64 a1_1, .slice A1_2 l1_2.length c1_2, .int .i64 a1_3]) (t := 41) ?hr ?_; (case hd => rfl); (case hg => rfl); (case hr => first | (go_simp; done) | (go_simp; rfl)); intro gb583 hg w75 hbox hb; have n0_ := Aside0.mk (blk_below (g := gb582) (o := .cells #[.int .i64 a0_0, .int .i64 a0_1, .slice A0_2 l0_2.length c0_2, .int .i64 a0_3] 26 (0, 0)) (by (with_reducible repeat (first | refine blk_drewN ?_ _ | refine blk_drew ?_ | refine blk_alloc ?_ _)); exact BK582.out) hb); have n1_ := Aside0.mk (below_step (by repeat (first | (with_reducible first | exact HB.out | apply below_alloc | apply pw_below_drewN | apply below_drew1 | refine below_set ?_ GE582.out) | exact HB.out)) hb); have n2_ := Aside0.mk (hbox); have n3_ := Aside0.mk ((by rw [hg]; exact (below_size (by repeat (first | (with_reducible first | exact HB.out | apply below_alloc | apply pw_below_drewN | apply below_drew1 | refine below_set ?_ GE582.out) | exact HB.out))) : w.heap.size ≤ gb583)); have n4_ := Aside0.mk ((by rw [hg]; exact (below_size (by repeat (first | (with_reducible first | exact HB.out | apply below_alloc | apply pw_below_drewN | apply below_drew1 | refine below_set ?_ GE582.out) | exact HB.out))) : w.heap.size ≤ gb583)); have n5_ := Aside0.mk ((by rw [hg]; exact Nat.ne_of_lt (blk_lt (g := gb582) (o := .cells #[.int .i64 a0_0, .int .i64 a0_1, .slice A0_2 l0_2.length c0_2, .int .i64 a0_3] 26 (0, 0)) (by (with_reducible repeat (first | refine blk_drewN ?_ _ | refine blk_drew ?_ | refine blk_alloc ?_ _)); exact BK582.out)) : gb582 ≠ gb583)); have n6_ := Aside0.mk ((by rw [hg]; exact Nat.ne_of_gt (blk_lt (g := gb582) (o := .cells #[.int .i64 a0_0, .int .i64 a0_1, .slice A0_2 l0_2.length c0_2, .int .i64 a0_3] 26 (0, 0)) (by (with_reducible repeat (first | refine blk_drewN ?_ _ | refine blk_drew ?_ | refine blk_alloc ?_ _)); exact BK582.out)) : gb583 ≠ gb582)); clear BK582; clear HB; have BK582 := n0_; have HB := n1_; have BK583 := n2_; have GW583 := n3_; have GE583 := n4_; have NB582_583 := n5_; have NB583_582 := n6_; clear n0_ n1_ n2_ n3_ n4_ n5_ n6_; clear hb hbox hg; have hnb76 := NB582_583.out; have hnc76 := NB583_582.out; have hcz77_0 : w75.cell? ⟨gb582, 0, none⟩ = some (.int .i64 a0_0) := (blk_cell BK582.out 0).trans rfl; have hcz77_1 : w75.cell? ⟨gb582, 1, none⟩ = some (.int .i64 a0_1) := (blk_cell BK582.out 1).trans rfl; have hcz77_2 : w75.cell? ⟨gb582, 2, none⟩ = some (.slice A0_2 l0_2.length c0_2) := (blk_cell BK582.out 2).trans rfl; have hcz77_3 : w75.cell? ⟨gb582, 3, none⟩ = some (.int .i64 a0_3) := (blk_cell BK582.out 3).trans rfl; have hfz77_0 := blk_frozen BK582.out 0; have hfz77_1 := blk_frozen BK582.out 1; have hfz77_2 := blk_frozen BK582.out 2; have hfz77_3 := blk_frozen BK582.out 3; have hcz78_0 : w75.cell? ⟨gb583, 0, none⟩ = some (.int .i64 a1_0) := (blk_cell BK583.out 0).trans rfl; have hcz78_1 : w75.cell? ⟨gb583, 1, none⟩ = some (.int .i64 a1_1) := (blk_cell BK583.out 1).trans rfl; have hcz78_2 : w75.cell? ⟨gb583, 2, none⟩ = some (.slice A1_2 l1_2.length c1_2) := (blk_cell BK583.out 2).trans rfl; have hcz78_3 : w75.cell? ⟨gb583, 3, none⟩ = some (.int .i64 a1_3) := (blk_cell BK583.out 3).trans rfl; have hfz78_0 := blk_frozen BK583.out 0; have hfz78_1 := blk_frozen BK583.out 1; have hfz78_2 := blk_frozen BK583.out 2; have hfz78_3 := blk_frozen BK583.out 3) | ((with_reducible refine gate_callee (f := 20) rfl ?_); refine goesL_ (some 21) rfl rfl Try.func20 (by kernel_rfl) rfl #[.agg #[.int .i64 a0_0, .int .i64 a0_1, .slice A0_2 l0_2.length c0_2, .int .i64 a0_3], .agg #[.int .i64 a1_0, .int .i64 a1_1], .slice A1_2 l1_2.length c1_2, .int .i64 a1_3] rfl (by (try simp only [List.map_toArray, List.map_cons, List.map_nil]); first | done | rfl | (simp only [List.length_drop, List.length_take]; rfl)) ?_; (with_reducible refine (entries_Accept.calls k a0_0 a0_1 _ _ l0_2 a0_3 a1_0 a1_1 _ _ l1_2 a1_3 t584 t585 t586 t589 t590 t591 t592 _ ?side1 ?side2 ?side3 ?side4 A3.out).mono ?_); (case side1 => repeat (first | exact (Kd.C_below HR0_2.out HB.out) | (with_reducible refine Kd.C_alloc ?_ _) | (with_reducible refine Kd.C_drewN ?_ _) | (with_reducible refine Kd.C_drew ?_))); (case side2 => exact HC0_2.out); (case side3 => repeat (first | exact (Kd.C_below HR1_2.out HB.out) | (with_reducible refine Kd.C_alloc ?_ _) | (with_reducible refine Kd.C_drewN ?_ _) | (with_reducible refine Kd.C_drew ?_))); (case side4 => exact HC1_2.out); rintro e w79 ⟨v587, rfl, ho0, hb⟩; refine ⟨_, rfl, ?_⟩; have n0_ := Aside0.mk (Kd.R_lower ho0 (below_size (by repeat (first | (with_reducible first | exact HB.out | apply below_alloc | apply pw_below_drewN | apply below_drew1 | refine below_set ?_ GE582.out | refine below_set ?_ GE583.out) | exact HB.out)))); have n1_ := Aside0.mk (blk_below (g := gb582) (o := .cells #[.int .i64 a0_0, .int .i64 a0_1, .slice A0_2 l0_2.length c0_2, .int .i64 a0_3] 26 (0, 0)) (by (with_reducible repeat (first | refine blk_drewN ?_ _ | refine blk_drew ?_ | refine blk_alloc ?_ _)); exact BK582.out) hb); have n2_ := Aside0.mk (blk_below (g := gb583) (o := .cells #[.int .i64 a1_0, .int .i64 a1_1, .slice A1_2 l1_2.length c1_2, .int .i64 a1_3] 41 (0, 0)) (by (with_reducible repeat (first | refine blk_drewN ?_ _ | refine blk_drew ?_ | refine blk_alloc ?_ _)); exact BK583.out) hb); have n3_ := Aside0.mk (below_step (by repeat (first | (with_reducible first | exact HB.out | apply below_alloc | apply pw_below_drewN | apply below_drew1 | refine below_set ?_ GE582.out | refine below_set ?_ GE583.out) | exact HB.out)) hb); clear BK582; clear BK583; clear HB; have HO588 := n0_; have BK582 := n1_; have BK583 := n2_; have HB := n3_; clear n0_ n1_ n2_ n3_; (try clear hb); (try clear hb2); (try clear hk); (try clear hi); (try clear ho0)) | ((with_reducible refine gate_dst (N := 5) rfl ?_); refine box_event ?hg (N := 5) ?hd (cs := #[.int .i64 0, .int .i64 0, .slice none 0 0, .int .i64 0]) (t := 26) ?hr ?_; (case hd => rfl); (case hg => rfl); (case hr => first | (go_simp; done) | (go_simp; rfl)); intro gb593 hg w80 hbox hb; have n0_ := Aside0.mk (Kd.R_below (by (with_reducible repeat (first | apply Kd.R_alloc | apply Kd.R_drewN | apply Kd.R_drew)); exact HO588.out) hb); have n1_ := Aside0.mk (blk_below (g := gb582) (o := .cells #[.int .i64 a0_0, .int .i64 a0_1, .slice A0_2 l0_2.length c0_2, .int .i64 a0_3] 26 (0, 0)) (by (with_reducible repeat (first | refine blk_drewN ?_ _ | refine blk_drew ?_ | refine blk_alloc ?_ _)); exact BK582.out) hb); have n2_ := Aside0.mk (blk_below (g := gb583) (o := .cells #[.int .i64 a1_0, .int .i64 a1_1, .slice A1_2 l1_2.length c1_2, .int .i64 a1_3] 41 (0, 0)) (by (with_reducible repeat (first | refine blk_drewN ?_ _ | refine blk_drew ?_ | refine blk_alloc ?_ _)); exact BK583.out) hb); have n3_ := Aside0.mk (below_step (by repeat (first | (with_reducible first | exact HB.out | apply below_alloc | apply pw_below_drewN | apply below_drew1 | refine below_set ?_ GE582.out | refine below_set ?_ GE583.out) | exact HB.out)) hb); have n4_ := Aside0.mk (hbox); have n5_ := Aside0.mk ((by rw [hg]; exact (below_size (by repeat (first | (with_reducible first | exact HB.out | apply below_alloc | apply pw_below_drewN | apply below_drew1 | refine below_set ?_ GE582.out | refine below_set ?_ GE583.out) | exact HB.out))) : w.heap.size ≤ gb593)); have n6_ := Aside0.mk ((by rw [hg]; exact (below_size (by repeat (first | (with_reducible first | exact HB.out | apply below_alloc | apply pw_below_drewN | apply below_drew1 | refine below_set ?_ GE582.out | refine below_set ?_ GE583.out) | exact HB.out))) : w.heap.size ≤ gb593)); have n7_ := Aside0.mk ((by rw [hg]; exact Nat.ne_of_lt (blk_lt (g := gb582) (o := .cells #[.int .i64 a0_0, .int .i64 a0_1, .slice A0_2 l0_2.length c0_2, .int .i64 a0_3] 26 (0, 0)) (by (with_reducible repeat (first | refine blk_drewN ?_ _ | refine blk_drew ?_ | refine blk_alloc ?_ _)); exact BK582.out)) : gb582 ≠ gb593)); have n8_ := Aside0.mk ((by rw [hg]; exact Nat.ne_of_gt (blk_lt (g := gb582) (o := .cells #[.int .i64 a0_0, .int .i64 a0_1, .slice A0_2 l0_2.length c0_2, .int .i64 a0_3] 26 (0, 0)) (by (with_reducible repeat (first | refine blk_drewN ?_ _ | refine blk_drew ?_ | refine blk_alloc ?_ _)); exact BK582.out)) : gb593 ≠ gb582)); have n9_ := Aside0.mk ((by rw [hg]; exact Nat.ne_of_lt (blk_lt (g := gb583) (o := .cells #[.int .i64 a1_0, .int .i64 a1_1, .slice A1_2 l1_2.length c1_2, .int .i64 a1_3] 41 (0, 0)) (by (with_reducible repeat (first | refine blk_drewN ?_ _ | refine blk_drew ?_ | refine blk_alloc ?_ _)); exact BK583.out)) : gb583 ≠ gb593)); have n10_ := Aside0.mk ((by rw [hg]; exact Nat.ne_of_gt (blk_lt (g := gb583) (o := .cells #[.int .i64 a1_0, .int .i64 a1_1, .slice A1_2 l1_2.length c1_2, .int .i64 a1_3] 41 (0, 0)) (by (with_reducible repeat (first | refine blk_drewN ?_ _ | refine blk_drew ?_ | refine blk_alloc ?_ _)); exact BK583.out)) : gb593 ≠ gb583)); clear HO588; clear BK582; clear BK583; clear HB; have HO588 := n0_; have BK582 := n1_; have BK583 := n2_; have HB := n3_; have BK593 := n4_; have GW593 := n5_; have GE593 := n6_; have NB582_593 := n7_; have NB593_582 := n8_; have NB583_593 := n9_; have NB593_583 := n10_; clear n0_ n1_ n2_ n3_ n4_ n5_ n6_ n7_ n8_ n9_ n10_; clear hb hbox hg; have hnb81 := NB593_582.out; have hnc81 := NB582_593.out; have hnb82 := NB593_583.out; have hnc82 := NB583_593.out; have hcz83_0 : w80.cell? ⟨gb593, 0, none⟩ = some (.int .i64 0) := (blk_cell BK593.out 0).trans rfl; have hcz83_1 : w80.cell? ⟨gb593, 1, none⟩ = some (.int .i64 0) := (blk_cell BK593.out 1).trans rfl; have hcz83_2 : w80.cell? ⟨gb593, 2, none⟩ = some (.slice none 0 0) := (blk_cell BK593.out 2).trans rfl; have hcz83_3 : w80.cell? ⟨gb593, 3, none⟩ = some (.int .i64 0) := (blk_cell BK593.out 3).trans rfl; have hfz83_0 := blk_frozen BK593.out 0; have hfz83_1 := blk_frozen BK593.out 1; have hfz83_2 := blk_frozen BK593.out 2; have hfz83_3 := blk_frozen BK593.out 3; obtain ⟨Ao84, co84, eo84⟩ := Kd.R_slice HO588.out; subst eo84; have hcz85_0 : w80.cell? ⟨gb583, 0, none⟩ = some (.int .i64 a1_0) := (blk_cell BK583.out 0).trans rfl; have hcz85_1 : w80.cell? ⟨gb583, 1, none⟩ = some (.int .i64 a1_1) := (blk_cell BK583.out 1).trans rfl; have hcz85_2 : w80.cell? ⟨gb583, 2, none⟩ = some (.slice A1_2 l1_2.length c1_2) := (blk_cell BK583.out 2).trans rfl; have hcz85_3 : w80.cell? ⟨gb583, 3, none⟩ = some (.int .i64 a1_3) := (blk_cell BK583.out 3).trans rfl; have hfz85_0 := blk_frozen BK583.out 0; have hfz85_1 := blk_frozen BK583.out 1; have hfz85_2 := blk_frozen BK583.out 2; have hfz85_3 := blk_frozen BK583.out 3) | ((with_reducible refine gate_callee (f := 20) rfl ?_); refine goesL_ (some 37) rfl rfl Try.func20 (by kernel_rfl) rfl #[.agg #[.int .i64 t584, .int .i64 t585, .slice Ao84 t586.length co84, .int .i64 t589], .agg #[.int .i64 a1_0, .int .i64 a1_1], .slice A1_2 l1_2.length c1_2, .int .i64 a1_3] rfl (by (try simp only [List.map_toArray, List.map_cons, List.map_nil]); first | done | rfl | (simp only [List.length_drop, List.length_take]; rfl)) ?_; (with_reducible refine (entries_Accept.calls k t584 t585 _ _ t586 t589 a1_0 a1_1 _ _ l1_2 a1_3 t594 t595 t596 t599 t600 t601 t602 _ ?side1 ?side2 ?side3 ?side4 A5.out).mono ?_); (case side1 => refine (Kd.R_reads' (e := 33) (base := w.heap.size) (ok := fun k_ => True) (n := t586.length) (c := co84) ?_).2.2; exact (by (with_reducible repeat (first | apply Kd.R_alloc | apply Kd.R_drewN | apply Kd.R_drew)); exact (Kd.R_mono (Kd.R_far (p := ⟨gb593, 3, none⟩) (Kd.R_far (p := ⟨gb593, 2, none⟩) (Kd.R_far (p := ⟨gb593, 1, none⟩) (Kd.R_far (p := ⟨gb593, 0, none⟩) (Kd.R_types HO588.out BK593.out (by decide)) (fun _ hk => hk.2) (.int .i64 t584)) (fun _ hk => hk.2) (.int .i64 t585)) (fun _ hk => hk.2) (.slice Ao84 t586.length co84)) (fun _ hk => hk.2) (.int .i64 t589)) (fun _ h_ => h_.1)))); (case side2 => exact (Kd.R_reads' HO588.out).2.1); (case side3 => exact Kd.C_below HR1_2.out (by repeat (first | (with_reducible first | exact HB.out | apply below_alloc | apply pw_below_drewN | apply below_drew1 | refine below_set ?_ GE582.out | refine below_set ?_ GE583.out | refine below_set ?_ GE593.out) | exact HB.out))); (case side4 => exact HC1_2.out); rintro e w86 ⟨v597, rfl, ho0, hb⟩; refine ⟨_, rfl, ?_⟩; have n0_ := Aside0.mk (Kd.R_elder' (by (with_reducible repeat (first | apply Kd.R_alloc | apply Kd.R_drewN | apply Kd.R_drew)); exact (Kd.R_mono (Kd.R_far (p := ⟨gb593, 3, none⟩) (Kd.R_far (p := ⟨gb593, 2, none⟩) (Kd.R_far (p := ⟨gb593, 1, none⟩) (Kd.R_far (p := ⟨gb593, 0, none⟩) (Kd.R_types HO588.out BK593.out (by decide)) (fun _ hk => hk.2) (.int .i64 t584)) (fun _ hk => hk.2) (.int .i64 t585)) (fun _ hk => hk.2) (.slice Ao84 t586.length co84)) (fun _ hk => hk.2) (.int .i64 t589)) (fun _ h_ => h_.1))) (Kd.R_base ho0) hb); have n1_ := Aside0.mk (Kd.R_lower (Kd.R_new' ho0 (Kd.R_lt (by (with_reducible repeat (first | apply Kd.R_alloc | apply Kd.R_drewN | apply Kd.R_drew)); exact (Kd.R_mono (Kd.R_far (p := ⟨gb593, 3, none⟩) (Kd.R_far (p := ⟨gb593, 2, none⟩) (Kd.R_far (p := ⟨gb593, 1, none⟩) (Kd.R_far (p := ⟨gb593, 0, none⟩) (Kd.R_types HO588.out BK593.out (by decide)) (fun _ hk => hk.2) (.int .i64 t584)) (fun _ hk => hk.2) (.int .i64 t585)) (fun _ hk => hk.2) (.slice Ao84 t586.length co84)) (fun _ hk => hk.2) (.int .i64 t589)) (fun _ h_ => h_.1))))) (below_size (by repeat (first | (with_reducible first | exact HB.out | apply below_alloc | apply pw_below_drewN | apply below_drew1 | refine below_set ?_ GE582.out | refine below_set ?_ GE583.out | refine below_set ?_ GE593.out) | exact HB.out)))); have n2_ := Aside0.mk (blk_below (g := gb582) (o := .cells #[.int .i64 a0_0, .int .i64 a0_1, .slice A0_2 l0_2.length c0_2, .int .i64 a0_3] 26 (0, 0)) (by (with_reducible repeat (first | refine blk_drewN ?_ _ | refine blk_drew ?_ | refine blk_alloc ?_ _)); refine blk_far ?_ NB582_593.out _; (with_reducible repeat (first | refine blk_drewN ?_ _ | refine blk_drew ?_ | refine blk_alloc ?_ _)); refine blk_far ?_ NB582_593.out _; (with_reducible repeat (first | refine blk_drewN ?_ _ | refine blk_drew ?_ | refine blk_alloc ?_ _)); refine blk_far ?_ NB582_593.out _; (with_reducible repeat (first | refine blk_drewN ?_ _ | refine blk_drew ?_ | refine blk_alloc ?_ _)); refine blk_far ?_ NB582_593.out _; (with_reducible repeat (first | refine blk_drewN ?_ _ | refine blk_drew ?_ | refine blk_alloc ?_ _)); exact BK582.out) hb); have n3_ := Aside0.mk (blk_below (g := gb583) (o := .cells #[.int .i64 a1_0, .int .i64 a1_1, .slice A1_2 l1_2.length c1_2, .int .i64 a1_3] 41 (0, 0)) (by (with_reducible repeat (first | refine blk_drewN ?_ _ | refine blk_drew ?_ | refine blk_alloc ?_ _)); refine blk_far ?_ NB583_593.out _; (with_reducible repeat (first | refine blk_drewN ?_ _ | refine blk_drew ?_ | refine blk_alloc ?_ _)); refine blk_far ?_ NB583_593.out _; (with_reducible repeat (first | refine blk_drewN ?_ _ | refine blk_drew ?_ | refine blk_alloc ?_ _)); refine blk_far ?_ NB583_593.out _; (with_reducible repeat (first | refine blk_drewN ?_ _ | refine blk_drew ?_ | refine blk_alloc ?_ _)); refine blk_far ?_ NB583_593.out _; (with_reducible repeat (first | refine blk_drewN ?_ _ | refine blk_drew ?_ | refine blk_alloc ?_ _)); exact BK583.out) hb); have n4_ := Aside0.mk (blk_below (g := gb593) (o := .cells #[.int .i64 t584, .int .i64 t585, .slice Ao84 t586.length co84, .int .i64 t589] 26 (0, 0)) (by (with_reducible repeat (first | refine blk_drewN ?_ _ | refine blk_drew ?_ | refine blk_alloc ?_ _)); refine blk_put (cs := #[.int .i64 t584, .int .i64 t585, .slice Ao84 t586.length co84, .int .i64 0]) ?_ 3 _ rfl; (with_reducible repeat (first | refine blk_drewN ?_ _ | refine blk_drew ?_ | refine blk_alloc ?_ _)); refine blk_put (cs := #[.int .i64 t584, .int .i64 t585, .slice none 0 0, .int .i64 0]) ?_ 2 _ rfl; (with_reducible repeat (first | refine blk_drewN ?_ _ | refine blk_drew ?_ | refine blk_alloc ?_ _)); refine blk_put (cs := #[.int .i64 t584, .int .i64 0, .slice none 0 0, .int .i64 0]) ?_ 1 _ rfl; (with_reducible repeat (first | refine blk_drewN ?_ _ | refine blk_drew ?_ | refine blk_alloc ?_ _)); refine blk_put (cs := #[.int .i64 0, .int .i64 0, .slice none 0 0, .int .i64 0]) ?_ 0 _ rfl; (with_reducible repeat (first | refine blk_drewN ?_ _ | refine blk_drew ?_ | refine blk_alloc ?_ _)); exact BK593.out) hb); have n5_ := Aside0.mk (below_step (by repeat (first | (with_reducible first | exact HB.out | apply below_alloc | apply pw_below_drewN | apply below_drew1 | refine below_set ?_ GE582.out | refine below_set ?_ GE583.out | refine below_set ?_ GE593.out) | exact HB.out)) hb); clear HO588; clear BK582; clear BK583; clear BK593; clear HB; have HO588 := n0_; have HO598 := n1_; have BK582 := n2_; have BK583 := n3_; have BK593 := n4_; have HB := n5_; clear n0_ n1_ n2_ n3_ n4_ n5_; (try clear hb); (try clear hb2); (try clear hk); (try clear hi); (try clear ho0)) | ((with_reducible refine gate_dst (N := 9) rfl ?_); refine box_event ?hg (N := 9) ?hd (cs := #[.int .i64 0, .int .i64 0, .slice none 0 0, .int .i64 0]) (t := 26) ?hr ?_; (case hd => rfl); (case hg => rfl); (case hr => first | (go_simp; done) | (go_simp; rfl)); intro gb603 hg w87 hbox hb; have n0_ := Aside0.mk (Kd.R_below (by (with_reducible repeat (first | apply Kd.R_alloc | apply Kd.R_drewN | apply Kd.R_drew)); exact HO588.out) hb); have n1_ := Aside0.mk (Kd.R_below (by (with_reducible repeat (first | apply Kd.R_alloc | apply Kd.R_drewN | apply Kd.R_drew)); exact HO598.out) hb); have n2_ := Aside0.mk (blk_below (g := gb582) (o := .cells #[.int .i64 a0_0, .int .i64 a0_1, .slice A0_2 l0_2.length c0_2, .int .i64 a0_3] 26 (0, 0)) (by (with_reducible repeat (first | refine blk_drewN ?_ _ | refine blk_drew ?_ | refine blk_alloc ?_ _)); exact BK582.out) hb); have n3_ := Aside0.mk (blk_below (g := gb583) (o := .cells #[.int .i64 a1_0, .int .i64 a1_1, .slice A1_2 l1_2.length c1_2, .int .i64 a1_3] 41 (0, 0)) (by (with_reducible repeat (first | refine blk_drewN ?_ _ | refine blk_drew ?_ | refine blk_alloc ?_ _)); exact BK583.out) hb); have n4_ := Aside0.mk (blk_below (g := gb593) (o := .cells #[.int .i64 t584, .int .i64 t585, .slice Ao84 t586.length co84, .int .i64 t589] 26 (0, 0)) (by (with_reducible repeat (first | refine blk_drewN ?_ _ | refine blk_drew ?_ | refine blk_alloc ?_ _)); exact BK593.out) hb); have n5_ := Aside0.mk (below_step (by repeat (first | (with_reducible first | exact HB.out | apply below_alloc | apply pw_below_drewN | apply below_drew1 | refine below_set ?_ GE582.out | refine below_set ?_ GE583.out | refine below_set ?_ GE593.out) | exact HB.out)) hb); have n6_ := Aside0.mk (hbox); have n7_ := Aside0.mk ((by rw [hg]; exact (below_size (by repeat (first | (with_reducible first | exact HB.out | apply below_alloc | apply pw_below_drewN | apply below_drew1 | refine below_set ?_ GE582.out | refine below_set ?_ GE583.out | refine below_set ?_ GE593.out) | exact HB.out))) : w.heap.size ≤ gb603)); have n8_ := Aside0.mk ((by rw [hg]; exact (below_size (by repeat (first | (with_reducible first | exact HB.out | apply below_alloc | apply pw_below_drewN | apply below_drew1 | refine below_set ?_ GE582.out | refine below_set ?_ GE583.out | refine below_set ?_ GE593.out) | exact HB.out))) : w.heap.size ≤ gb603)); have n9_ := Aside0.mk ((by rw [hg]; exact Nat.ne_of_lt (blk_lt (g := gb582) (o := .cells #[.int .i64 a0_0, .int .i64 a0_1, .slice A0_2 l0_2.length c0_2, .int .i64 a0_3] 26 (0, 0)) (by (with_reducible repeat (first | refine blk_drewN ?_ _ | refine blk_drew ?_ | refine blk_alloc ?_ _)); exact BK582.out)) : gb582 ≠ gb603)); have n10_ := Aside0.mk ((by rw [hg]; exact Nat.ne_of_gt (blk_lt (g := gb582) (o := .cells #[.int .i64 a0_0, .int .i64 a0_1, .slice A0_2 l0_2.length c0_2, .int .i64 a0_3] 26 (0, 0)) (by (with_reducible repeat (first | refine blk_drewN ?_ _ | refine blk_drew ?_ | refine blk_alloc ?_ _)); exact BK582.out)) : gb603 ≠ gb582)); have n11_ := Aside0.mk ((by rw [hg]; exact Nat.ne_of_lt (blk_lt (g := gb583) (o := .cells #[.int .i64 a1_0, .int .i64 a1_1, .slice A1_2 l1_2.length c1_2, .int .i64 a1_3] 41 (0, 0)) (by (with_reducible repeat (first | refine blk_drewN ?_ _ | refine blk_drew ?_ | refine blk_alloc ?_ _)); exact BK583.out)) : gb583 ≠ gb603)); have n12_ := Aside0.mk ((by rw [hg]; exact Nat.ne_of_gt (blk_lt (g := gb583) (o := .cells #[.int .i64 a1_0, .int .i64 a1_1, .slice A1_2 l1_2.length c1_2, .int .i64 a1_3] 41 (0, 0)) (by (with_reducible repeat (first | refine blk_drewN ?_ _ | refine blk_drew ?_ | refine blk_alloc ?_ _)); exact BK583.out)) : gb603 ≠ gb583)); have n13_ := Aside0.mk ((by rw [hg]; exact Nat.ne_of_lt (blk_lt (g := gb593) (o := .cells #[.int .i64 t584, .int .i64 t585, .slice Ao84 t586.length co84, .int .i64 t589] 26 (0, 0)) (by (with_reducible repeat (first | refine blk_drewN ?_ _ | refine blk_drew ?_ | refine blk_alloc ?_ _)); exact BK593.out)) : gb593 ≠ gb603)); have n14_ := Aside0.mk ((by rw [hg]; exact Nat.ne_of_gt (blk_lt (g := gb593) (o := .cells #[.int .i64 t584, .int .i64 t585, .slice Ao84 t586.length co84, .int .i64 t589] 26 (0, 0)) (by (with_reducible repeat (first | refine blk_drewN ?_ _ | refine blk_drew ?_ | refine blk_alloc ?_ _)); exact BK593.out)) : gb603 ≠ gb593)); clear HO588; clear HO598; clear BK582; clear BK583; clear BK593; clear HB; have HO588 := n0_; have HO598 := n1_; have BK582 := n2_; have BK583 := n3_; have BK593 := n4_; have HB := n5_; have BK603 := n6_; have GW603 := n7_; have GE603 := n8_; have NB582_603 := n9_; have NB603_582 := n10_; have NB583_603 := n11_; have NB603_583 := n12_; have NB593_603 := n13_; have NB603_593 := n14_; clear n0_ n1_ n2_ n3_ n4_ n5_ n6_ n7_ n8_ n9_ n10_ n11_ n12_ n13_ n14_; clear hb hbox hg; have hnb88 := NB603_582.out; have hnc88 := NB582_603.out; have hnb89 := NB603_583.out; have hnc89 := NB583_603.out; have hnb90 := NB603_593.out; have hnc90 := NB593_603.out; have hcz91_0 : w87.cell? ⟨gb603, 0, none⟩ = some (.int .i64 0) := (blk_cell BK603.out 0).trans rfl; have hcz91_1 : w87.cell? ⟨gb603, 1, none⟩ = some (.int .i64 0) := (blk_cell BK603.out 1).trans rfl; have hcz91_2 : w87.cell? ⟨gb603, 2, none⟩ = some (.slice none 0 0) := (blk_cell BK603.out 2).trans rfl; have hcz91_3 : w87.cell? ⟨gb603, 3, none⟩ = some (.int .i64 0) := (blk_cell BK603.out 3).trans rfl; have hfz91_0 := blk_frozen BK603.out 0; have hfz91_1 := blk_frozen BK603.out 1; have hfz91_2 := blk_frozen BK603.out 2; have hfz91_3 := blk_frozen BK603.out 3; obtain ⟨Ao92, co92, eo92⟩ := Kd.R_slice HO598.out; subst eo92))
        go_ret
        exact ⟨by first | rfl | (simp [errW_none, errW_some] <;> rfl) | (simp [*, errW_none, errW_some] <;> rfl), by repeat (first | (with_reducible first | exact HB.out | apply below_alloc | apply pw_below_drewN | apply below_drew1 | refine below_set ?_ GE582.out | refine below_set ?_ GE583.out | refine below_set ?_ GE593.out | refine below_set ?_ GE603.out) | exact HB.out)⟩
    · rw [if_neg c6] at H
      have c6b0 : (t602 == 0) = false := beq_eq_false_iff_ne.mpr c6
      have c6b1 : (t602 != 0) = true := bne_iff_ne.mpr c6
      obtain rfl := Option.some.inj H
      go_enter Try.func8, Try.ntmps8
      go_wp2_with (first | ((with_reducible refine gate_dst (N := 2) rfl ?_); refine box_event ?hg (N := 2) ?hd (cs := #[.int .i64 a0_0, .int .i64 a0_1, .slice A0_2 l0_2.length c0_2, .int .i64 a0_3]) (t := 26) ?hr ?_; (case hd => rfl); (case hg => rfl); (case hr => first | (go_simp; done) | (go_simp; rfl)); intro gb582 hg w93 hbox hb; have n0_ := Aside0.mk (below_step (by repeat (first | (with_reducible first | exact HB.out | apply below_alloc | apply pw_below_drewN | apply below_drew1) | exact HB.out)) hb); have n1_ := Aside0.mk (hbox); have n2_ := Aside0.mk ((by rw [hg]; exact (below_size (by repeat (first | (with_reducible first | exact HB.out | apply below_alloc | apply pw_below_drewN | apply below_drew1) | exact HB.out))) : w.heap.size ≤ gb582)); have n3_ := Aside0.mk ((by rw [hg]; exact (below_size (by repeat (first | (with_reducible first | exact HB.out | apply below_alloc | apply pw_below_drewN | apply below_drew1) | exact HB.out))) : w.heap.size ≤ gb582)); clear HB; have HB := n0_; have BK582 := n1_; have GW582 := n2_; have GE582 := n3_; clear n0_ n1_ n2_ n3_; clear hb hbox hg) | ((with_reducible refine gate_dst (N := 3) rfl ?_); refine box_event ?hg (N := 3) ?hd (cs := #[.int .i64 a1_0, .int .i64 a1_1, .slice A1_2 l1_2.length c1_2, .int .i64 a1_3]) (t := 41) ?hr ?_; (case hd => rfl); (case hg => rfl); (case hr => first | (go_simp; done) | (go_simp; rfl)); intro gb583 hg w94 hbox hb; have n0_ := Aside0.mk (blk_below (g := gb582) (o := .cells #[.int .i64 a0_0, .int .i64 a0_1, .slice A0_2 l0_2.length c0_2, .int .i64 a0_3] 26 (0, 0)) (by (with_reducible repeat (first | refine blk_drewN ?_ _ | refine blk_drew ?_ | refine blk_alloc ?_ _)); exact BK582.out) hb); have n1_ := Aside0.mk (below_step (by repeat (first | (with_reducible first | exact HB.out | apply below_alloc | apply pw_below_drewN | apply below_drew1 | refine below_set ?_ GE582.out) | exact HB.out)) hb); have n2_ := Aside0.mk (hbox); have n3_ := Aside0.mk ((by rw [hg]; exact (below_size (by repeat (first | (with_reducible first | exact HB.out | apply below_alloc | apply pw_below_drewN | apply below_drew1 | refine below_set ?_ GE582.out) | exact HB.out))) : w.heap.size ≤ gb583)); have n4_ := Aside0.mk ((by rw [hg]; exact (below_size (by repeat (first | (with_reducible first | exact HB.out | apply below_alloc | apply pw_below_drewN | apply below_drew1 | refine below_set ?_ GE582.out) | exact HB.out))) : w.heap.size ≤ gb583)); have n5_ := Aside0.mk ((by rw [hg]; exact Nat.ne_of_lt (blk_lt (g := gb582) (o := .cells #[.int .i64 a0_0, .int .i64 a0_1, .slice A0_2 l0_2.length c0_2, .int .i64 a0_3] 26 (0, 0)) (by (with_reducible repeat (first | refine blk_drewN ?_ _ | refine blk_drew ?_ | refine blk_alloc ?_ _)); exact BK582.out)) : gb582 ≠ gb583)); have n6_ := Aside0.mk ((by rw [hg]; exact Nat.ne_of_gt (blk_lt (g := gb582) (o := .cells #[.int .i64 a0_0, .int .i64 a0_1, .slice A0_2 l0_2.length c0_2, .int .i64 a0_3] 26 (0, 0)) (by (with_reducible repeat (first | refine blk_drewN ?_ _ | refine blk_drew ?_ | refine blk_alloc ?_ _)); exact BK582.out)) : gb583 ≠ gb582)); clear BK582; clear HB; have BK582 := n0_; have HB := n1_; have BK583 := n2_; have GW583 := n3_; have GE583 := n4_; have NB582_583 := n5_; have NB583_582 := n6_; clear n0_ n1_ n2_ n3_ n4_ n5_ n6_; clear hb hbox hg; have hnb95 := NB582_583.out; have hnc95 := NB583_582.out; have hcz96_0 : w94.cell? ⟨gb582, 0, none⟩ = some (.int .i64 a0_0) := (blk_cell BK582.out 0).trans rfl; have hcz96_1 : w94.cell? ⟨gb582, 1, none⟩ = some (.int .i64 a0_1) := (blk_cell BK582.out 1).trans rfl; have hcz96_2 : w94.cell? ⟨gb582, 2, none⟩ = some (.slice A0_2 l0_2.length c0_2) := (blk_cell BK582.out 2).trans rfl; have hcz96_3 : w94.cell? ⟨gb582, 3, none⟩ = some (.int .i64 a0_3) := (blk_cell BK582.out 3).trans rfl; have hfz96_0 := blk_frozen BK582.out 0; have hfz96_1 := blk_frozen BK582.out 1; have hfz96_2 := blk_frozen BK582.out 2; have hfz96_3 := blk_frozen BK582.out 3; have hcz97_0 : w94.cell? ⟨gb583, 0, none⟩ = some (.int .i64 a1_0) := (blk_cell BK583.out 0).trans rfl; have hcz97_1 : w94.cell? ⟨gb583, 1, none⟩ = some (.int .i64 a1_1) := (blk_cell BK583.out 1).trans rfl; have hcz97_2 : w94.cell? ⟨gb583, 2, none⟩ = some (.slice A1_2 l1_2.length c1_2) := (blk_cell BK583.out 2).trans rfl; have hcz97_3 : w94.cell? ⟨gb583, 3, none⟩ = some (.int .i64 a1_3) := (blk_cell BK583.out 3).trans rfl; have hfz97_0 := blk_frozen BK583.out 0; have hfz97_1 := blk_frozen BK583.out 1; have hfz97_2 := blk_frozen BK583.out 2; have hfz97_3 := blk_frozen BK583.out 3) | ((with_reducible refine gate_callee (f := 20) rfl ?_); refine goesL_ (some 21) rfl rfl Try.func20 (by kernel_rfl) rfl #[.agg #[.int .i64 a0_0, .int .i64 a0_1, .slice A0_2 l0_2.length c0_2, .int .i64 a0_3], .agg #[.int .i64 a1_0, .int .i64 a1_1], .slice A1_2 l1_2.length c1_2, .int .i64 a1_3] rfl (by (try simp only [List.map_toArray, List.map_cons, List.map_nil]); first | done | rfl | (simp only [List.length_drop, List.length_take]; rfl)) ?_; (with_reducible refine (entries_Accept.calls k a0_0 a0_1 _ _ l0_2 a0_3 a1_0 a1_1 _ _ l1_2 a1_3 t584 t585 t586 t589 t590 t591 t592 _ ?side1 ?side2 ?side3 ?side4 A3.out).mono ?_); (case side1 => repeat (first | exact (Kd.C_below HR0_2.out HB.out) | (with_reducible refine Kd.C_alloc ?_ _) | (with_reducible refine Kd.C_drewN ?_ _) | (with_reducible refine Kd.C_drew ?_))); (case side2 => exact HC0_2.out); (case side3 => repeat (first | exact (Kd.C_below HR1_2.out HB.out) | (with_reducible refine Kd.C_alloc ?_ _) | (with_reducible refine Kd.C_drewN ?_ _) | (with_reducible refine Kd.C_drew ?_))); (case side4 => exact HC1_2.out); rintro e w98 ⟨v587, rfl, ho0, hb⟩; refine ⟨_, rfl, ?_⟩; have n0_ := Aside0.mk (Kd.R_lower ho0 (below_size (by repeat (first | (with_reducible first | exact HB.out | apply below_alloc | apply pw_below_drewN | apply below_drew1 | refine below_set ?_ GE582.out | refine below_set ?_ GE583.out) | exact HB.out)))); have n1_ := Aside0.mk (blk_below (g := gb582) (o := .cells #[.int .i64 a0_0, .int .i64 a0_1, .slice A0_2 l0_2.length c0_2, .int .i64 a0_3] 26 (0, 0)) (by (with_reducible repeat (first | refine blk_drewN ?_ _ | refine blk_drew ?_ | refine blk_alloc ?_ _)); exact BK582.out) hb); have n2_ := Aside0.mk (blk_below (g := gb583) (o := .cells #[.int .i64 a1_0, .int .i64 a1_1, .slice A1_2 l1_2.length c1_2, .int .i64 a1_3] 41 (0, 0)) (by (with_reducible repeat (first | refine blk_drewN ?_ _ | refine blk_drew ?_ | refine blk_alloc ?_ _)); exact BK583.out) hb); have n3_ := Aside0.mk (below_step (by repeat (first | (with_reducible first | exact HB.out | apply below_alloc | apply pw_below_drewN | apply below_drew1 | refine below_set ?_ GE582.out | refine below_set ?_ GE583.out) | exact HB.out)) hb); clear BK582; clear BK583; clear HB; have HO588 := n0_; have BK582 := n1_; have BK583 := n2_; have HB := n3_; clear n0_ n1_ n2_ n3_; (try clear hb); (try clear hb2); (try clear hk); (try clear hi); (try clear ho0)) | ((with_reducible refine gate_dst (N := 5) rfl ?_); refine box_event ?hg (N := 5) ?hd (cs := #[.int .i64 0, .int .i64 0, .slice none 0 0, .int .i64 0]) (t := 26) ?hr ?_; (case hd => rfl); (case hg => rfl); (case hr => first | (go_simp; done) | (go_simp; rfl)); intro gb593 hg w99 hbox hb; have n0_ := Aside0.mk (Kd.R_below (by (with_reducible repeat (first | apply Kd.R_alloc | apply Kd.R_drewN | apply Kd.R_drew)); exact HO588.out) hb); have n1_ := Aside0.mk (blk_below (g := gb582) (o := .cells #[.int .i64 a0_0, .int .i64 a0_1, .slice A0_2 l0_2.length c0_2, .int .i64 a0_3] 26 (0, 0)) (by (with_reducible repeat (first | refine blk_drewN ?_ _ | refine blk_drew ?_ | refine blk_alloc ?_ _)); exact BK582.out) hb); have n2_ := Aside0.mk (blk_below (g := gb583) (o := .cells #[.int .i64 a1_0, .int .i64 a1_1, .slice A1_2 l1_2.length c1_2, .int .i64 a1_3] 41 (0, 0)) (by (with_reducible repeat (first | refine blk_drewN ?_ _ | refine blk_drew ?_ | refine blk_alloc ?_ _)); exact BK583.out) hb); have n3_ := Aside0.mk (below_step (by repeat (first | (with_reducible first | exact HB.out | apply below_alloc | apply pw_below_drewN | apply below_drew1 | refine below_set ?_ GE582.out | refine below_set ?_ GE583.out) | exact HB.out)) hb); have n4_ := Aside0.mk (hbox); have n5_ := Aside0.mk ((by rw [hg]; exact (below_size (by repeat (first | (with_reducible first | exact HB.out | apply below_alloc | apply pw_below_drewN | apply below_drew1 | refine below_set ?_ GE582.out | refine below_set ?_ GE583.out) | exact HB.out))) : w.heap.size ≤ gb593)); have n6_ := Aside0.mk ((by rw [hg]; exact (below_size (by repeat (first | (with_reducible first | exact HB.out | apply below_alloc | apply pw_below_drewN | apply below_drew1 | refine below_set ?_ GE582.out | refine below_set ?_ GE583.out) | exact HB.out))) : w.heap.size ≤ gb593)); have n7_ := Aside0.mk ((by rw [hg]; exact Nat.ne_of_lt (blk_lt (g := gb582) (o := .cells #[.int .i64 a0_0, .int .i64 a0_1, .slice A0_2 l0_2.length c0_2, .int .i64 a0_3] 26 (0, 0)) (by (with_reducible repeat (first | refine blk_drewN ?_ _ | refine blk_drew ?_ | refine blk_alloc ?_ _)); exact BK582.out)) : gb582 ≠ gb593)); have n8_ := Aside0.mk ((by rw [hg]; exact Nat.ne_of_gt (blk_lt (g := gb582) (o := .cells #[.int .i64 a0_0, .int .i64 a0_1, .slice A0_2 l0_2.length c0_2, .int .i64 a0_3] 26 (0, 0)) (by (with_reducible repeat (first | refine blk_drewN ?_ _ | refine blk_drew ?_ | refine blk_alloc ?_ _)); exact BK582.out)) : gb593 ≠ gb582)); have n9_ := Aside0.mk ((by rw [hg]; exact Nat.ne_of_lt (blk_lt (g := gb583) (o := .cells #[.int .i64 a1_0, .int .i64 a1_1, .slice A1_2 l1_2.length c1_2, .int .i64 a1_3] 41 (0, 0)) (by (with_reducible repeat (first | refine blk_drewN ?_ _ | refine blk_drew ?_ | refine blk_alloc ?_ _)); exact BK583.out)) : gb583 ≠ gb593)); have n10_ := Aside0.mk ((by rw [hg]; exact Nat.ne_of_gt (blk_lt (g := gb583) (o := .cells #[.int .i64 a1_0, .int .i64 a1_1, .slice A1_2 l1_2.length c1_2, .int .i64 a1_3] 41 (0, 0)) (by (with_reducible repeat (first | refine blk_drewN ?_ _ | refine blk_drew ?_ | refine blk_alloc ?_ _)); exact BK583.out)) : gb593 ≠ gb583)); clear HO588; clear BK582; clear BK583; clear HB; have HO588 := n0_; have BK582 := n1_; have BK583 := n2_; have HB := n3_; have BK593 := n4_; have GW593 := n5_; have GE593 := n6_; have NB582_593 := n7_; have NB593_582 := n8_; have NB583_593 := n9_; have NB593_583 := n10_; clear n0_ n1_ n2_ n3_ n4_ n5_ n6_ n7_ n8_ n9_ n10_; clear hb hbox hg; have hnb100 := NB593_582.out; have hnc100 := NB582_593.out; have hnb101 := NB593_583.out; have hnc101 := NB583_593.out; have hcz102_0 : w99.cell? ⟨gb593, 0, none⟩ = some (.int .i64 0) := (blk_cell BK593.out 0).trans rfl; have hcz102_1 : w99.cell? ⟨gb593, 1, none⟩ = some (.int .i64 0) := (blk_cell BK593.out 1).trans rfl; have hcz102_2 : w99.cell? ⟨gb593, 2, none⟩ = some (.slice none 0 0) := (blk_cell BK593.out 2).trans rfl; have hcz102_3 : w99.cell? ⟨gb593, 3, none⟩ = some (.int .i64 0) := (blk_cell BK593.out 3).trans rfl; have hfz102_0 := blk_frozen BK593.out 0; have hfz102_1 := blk_frozen BK593.out 1; have hfz102_2 := blk_frozen BK593.out 2; have hfz102_3 := blk_frozen BK593.out 3; obtain ⟨Ao103, co103, eo103⟩ := Kd.R_slice HO588.out; subst eo103; have hcz104_0 : w99.cell? ⟨gb583, 0, none⟩ = some (.int .i64 a1_0) := (blk_cell BK583.out 0).trans rfl; have hcz104_1 : w99.cell? ⟨gb583, 1, none⟩ = some (.int .i64 a1_1) := (blk_cell BK583.out 1).trans rfl; have hcz104_2 : w99.cell? ⟨gb583, 2, none⟩ = some (.slice A1_2 l1_2.length c1_2) := (blk_cell BK583.out 2).trans rfl; have hcz104_3 : w99.cell? ⟨gb583, 3, none⟩ = some (.int .i64 a1_3) := (blk_cell BK583.out 3).trans rfl; have hfz104_0 := blk_frozen BK583.out 0; have hfz104_1 := blk_frozen BK583.out 1; have hfz104_2 := blk_frozen BK583.out 2; have hfz104_3 := blk_frozen BK583.out 3) | ((with_reducible refine gate_callee (f := 20) rfl ?_); refine goesL_ (some 37) rfl rfl Try.func20 (by kernel_rfl) rfl #[.agg #[.int .i64 t584, .int .i64 t585, .slice Ao103 t586.length co103, .int .i64 t589], .agg #[.int .i64 a1_0, .int .i64 a1_1], .slice A1_2 l1_2.length c1_2, .int .i64 a1_3] rfl (by (try simp only [List.map_toArray, List.map_cons, List.map_nil]); first | done | rfl | (simp only [List.length_drop, List.length_take]; rfl)) ?_; (with_reducible refine (entries_Accept.calls k t584 t585 _ _ t586 t589 a1_0 a1_1 _ _ l1_2 a1_3 t594 t595 t596 t599 t600 t601 t602 _ ?side1 ?side2 ?side3 ?side4 A5.out).mono ?_); (case side1 => refine (Kd.R_reads' (e := 33) (base := w.heap.size) (ok := fun k_ => True) (n := t586.length) (c := co103) ?_).2.2; exact (by (with_reducible repeat (first | apply Kd.R_alloc | apply Kd.R_drewN | apply Kd.R_drew)); exact (Kd.R_mono (Kd.R_far (p := ⟨gb593, 3, none⟩) (Kd.R_far (p := ⟨gb593, 2, none⟩) (Kd.R_far (p := ⟨gb593, 1, none⟩) (Kd.R_far (p := ⟨gb593, 0, none⟩) (Kd.R_types HO588.out BK593.out (by decide)) (fun _ hk => hk.2) (.int .i64 t584)) (fun _ hk => hk.2) (.int .i64 t585)) (fun _ hk => hk.2) (.slice Ao103 t586.length co103)) (fun _ hk => hk.2) (.int .i64 t589)) (fun _ h_ => h_.1)))); (case side2 => exact (Kd.R_reads' HO588.out).2.1); (case side3 => exact Kd.C_below HR1_2.out (by repeat (first | (with_reducible first | exact HB.out | apply below_alloc | apply pw_below_drewN | apply below_drew1 | refine below_set ?_ GE582.out | refine below_set ?_ GE583.out | refine below_set ?_ GE593.out) | exact HB.out))); (case side4 => exact HC1_2.out); rintro e w105 ⟨v597, rfl, ho0, hb⟩; refine ⟨_, rfl, ?_⟩; have n0_ := Aside0.mk (Kd.R_elder' (by (with_reducible repeat (first | apply Kd.R_alloc | apply Kd.R_drewN | apply Kd.R_drew)); exact (Kd.R_mono (Kd.R_far (p := ⟨gb593, 3, none⟩) (Kd.R_far (p := ⟨gb593, 2, none⟩) (Kd.R_far (p := ⟨gb593, 1, none⟩) (Kd.R_far (p := ⟨gb593, 0, none⟩) (Kd.R_types HO588.out BK593.out (by decide)) (fun _ hk => hk.2) (.int .i64 t584)) (fun _ hk => hk.2) (.int .i64 t585)) (fun _ hk => hk.2) (.slice Ao103 t586.length co103)) (fun _ hk => hk.2) (.int .i64 t589)) (fun _ h_ => h_.1))) (Kd.R_base ho0) hb); have n1_ := Aside0.mk (Kd.R_lower (Kd.R_new' ho0 (Kd.R_lt (by (with_reducible repeat (first | apply Kd.R_alloc | apply Kd.R_drewN | apply Kd.R_drew)); exact (Kd.R_mono (Kd.R_far (p := ⟨gb593, 3, none⟩) (Kd.R_far (p := ⟨gb593, 2, none⟩) (Kd.R_far (p := ⟨gb593, 1, none⟩) (Kd.R_far (p := ⟨gb593, 0, none⟩) (Kd.R_types HO588.out BK593.out (by decide)) (fun _ hk => hk.2) (.int .i64 t584)) (fun _ hk => hk.2) (.int .i64 t585)) (fun _ hk => hk.2) (.slice Ao103 t586.length co103)) (fun _ hk => hk.2) (.int .i64 t589)) (fun _ h_ => h_.1))))) (below_size (by repeat (first | (with_reducible first | exact HB.out | apply below_alloc | apply pw_below_drewN | apply below_drew1 | refine below_set ?_ GE582.out | refine below_set ?_ GE583.out | refine below_set ?_ GE593.out) | exact HB.out)))); have n2_ := Aside0.mk (blk_below (g := gb582) (o := .cells #[.int .i64 a0_0, .int .i64 a0_1, .slice A0_2 l0_2.length c0_2, .int .i64 a0_3] 26 (0, 0)) (by (with_reducible repeat (first | refine blk_drewN ?_ _ | refine blk_drew ?_ | refine blk_alloc ?_ _)); refine blk_far ?_ NB582_593.out _; (with_reducible repeat (first | refine blk_drewN ?_ _ | refine blk_drew ?_ | refine blk_alloc ?_ _)); refine blk_far ?_ NB582_593.out _; (with_reducible repeat (first | refine blk_drewN ?_ _ | refine blk_drew ?_ | refine blk_alloc ?_ _)); refine blk_far ?_ NB582_593.out _; (with_reducible repeat (first | refine blk_drewN ?_ _ | refine blk_drew ?_ | refine blk_alloc ?_ _)); refine blk_far ?_ NB582_593.out _; (with_reducible repeat (first | refine blk_drewN ?_ _ | refine blk_drew ?_ | refine blk_alloc ?_ _)); exact BK582.out) hb); have n3_ := Aside0.mk (blk_below (g := gb583) (o := .cells #[.int .i64 a1_0, .int .i64 a1_1, .slice A1_2 l1_2.length c1_2, .int .i64 a1_3] 41 (0, 0)) (by (with_reducible repeat (first | refine blk_drewN ?_ _ | refine blk_drew ?_ | refine blk_alloc ?_ _)); refine blk_far ?_ NB583_593.out _; (with_reducible repeat (first | refine blk_drewN ?_ _ | refine blk_drew ?_ | refine blk_alloc ?_ _)); refine blk_far ?_ NB583_593.out _; (with_reducible repeat (first | refine blk_drewN ?_ _ | refine blk_drew ?_ | refine blk_alloc ?_ _)); refine blk_far ?_ NB583_593.out _; (with_reducible repeat (first | refine blk_drewN ?_ _ | refine blk_drew ?_ | refine blk_alloc ?_ _)); refine blk_far ?_ NB583_593.out _; (with_reducible repeat (first | refine blk_drewN ?_ _ | refine blk_drew ?_ | refine blk_alloc ?_ _)); exact BK583.out) hb); have n4_ := Aside0.mk (blk_below (g := gb593) (o := .cells #[.int .i64 t584, .int .i64 t585, .slice Ao103 t586.length co103, .int .i64 t589] 26 (0, 0)) (by (with_reducible repeat (first | refine blk_drewN ?_ _ | refine blk_drew ?_ | refine blk_alloc ?_ _)); refine blk_put (cs := #[.int .i64 t584, .int .i64 t585, .slice Ao103 t586.length co103, .int .i64 0]) ?_ 3 _ rfl; (with_reducible repeat (first | refine blk_drewN ?_ _ | refine blk_drew ?_ | refine blk_alloc ?_ _)); refine blk_put (cs := #[.int .i64 t584, .int .i64 t585, .slice none 0 0, .int .i64 0]) ?_ 2 _ rfl; (with_reducible repeat (first | refine blk_drewN ?_ _ | refine blk_drew ?_ | refine blk_alloc ?_ _)); refine blk_put (cs := #[.int .i64 t584, .int .i64 0, .slice none 0 0, .int .i64 0]) ?_ 1 _ rfl; (with_reducible repeat (first | refine blk_drewN ?_ _ | refine blk_drew ?_ | refine blk_alloc ?_ _)); refine blk_put (cs := #[.int .i64 0, .int .i64 0, .slice none 0 0, .int .i64 0]) ?_ 0 _ rfl; (with_reducible repeat (first | refine blk_drewN ?_ _ | refine blk_drew ?_ | refine blk_alloc ?_ _)); exact BK593.out) hb); have n5_ := Aside0.mk (below_step (by repeat (first | (with_reducible first | exact HB.out | apply below_alloc | apply pw_below_drewN | apply below_drew1 | refine below_set ?_ GE582.out | refine below_set ?_ GE583.out | refine below_set ?_ GE593.out) | exact HB.out)) hb); clear HO588; clear BK582; clear BK583; clear BK593; clear HB; have HO588 := n0_; have HO598 := n1_; have BK582 := n2_; have BK583 := n3_; have BK593 := n4_; have HB := n5_; clear n0_ n1_ n2_ n3_ n4_ n5_; (try clear hb); (try clear hb2); (try clear hk); (try clear hi); (try clear ho0)) | ((with_reducible refine gate_dst (N := 9) rfl ?_); refine box_event ?hg (N := 9) ?hd (cs := #[.int .i64 0, .int .i64 0, .slice none 0 0, .int .i64 0]) (t := 26) ?hr ?_; (case hd => rfl); (case hg => rfl); (case hr => first | (go_simp; done) | (go_simp; rfl)); intro gb603 hg w106 hbox hb; have n0_ := Aside0.mk (Kd.R_below (by (with_reducible repeat (first | apply Kd.R_alloc | apply Kd.R_drewN | apply Kd.R_drew)); exact HO588.out) hb); have n1_ := Aside0.mk (Kd.R_below (by (with_reducible repeat (first | apply Kd.R_alloc | apply Kd.R_drewN | apply Kd.R_drew)); exact HO598.out) hb); have n2_ := Aside0.mk (blk_below (g := gb582) (o := .cells #[.int .i64 a0_0, .int .i64 a0_1, .slice A0_2 l0_2.length c0_2, .int .i64 a0_3] 26 (0, 0)) (by (with_reducible repeat (first | refine blk_drewN ?_ _ | refine blk_drew ?_ | refine blk_alloc ?_ _)); exact BK582.out) hb); have n3_ := Aside0.mk (blk_below (g := gb583) (o := .cells #[.int .i64 a1_0, .int .i64 a1_1, .slice A1_2 l1_2.length c1_2, .int .i64 a1_3] 41 (0, 0)) (by (with_reducible repeat (first | refine blk_drewN ?_ _ | refine blk_drew ?_ | refine blk_alloc ?_ _)); exact BK583.out) hb); have n4_ := Aside0.mk (blk_below (g := gb593) (o := .cells #[.int .i64 t584, .int .i64 t585, .slice Ao103 t586.length co103, .int .i64 t589] 26 (0, 0)) (by (with_reducible repeat (first | refine blk_drewN ?_ _ | refine blk_drew ?_ | refine blk_alloc ?_ _)); exact BK593.out) hb); have n5_ := Aside0.mk (below_step (by repeat (first | (with_reducible first | exact HB.out | apply below_alloc | apply pw_below_drewN | apply below_drew1 | refine below_set ?_ GE582.out | refine below_set ?_ GE583.out | refine below_set ?_ GE593.out) | exact HB.out)) hb); have n6_ := Aside0.mk (hbox); have n7_ := Aside0.mk ((by rw [hg]; exact (below_size (by repeat (first | (with_reducible first | exact HB.out | apply below_alloc | apply pw_below_drewN | apply below_drew1 | refine below_set ?_ GE582.out | refine below_set ?_ GE583.out | refine below_set ?_ GE593.out) | exact HB.out))) : w.heap.size ≤ gb603)); have n8_ := Aside0.mk ((by rw [hg]; exact (below_size (by repeat (first | (with_reducible first | exact HB.out | apply below_alloc | apply pw_below_drewN | apply below_drew1 | refine below_set ?_ GE582.out | refine below_set ?_ GE583.out | refine below_set ?_ GE593.out) | exact HB.out))) : w.heap.size ≤ gb603)); have n9_ := Aside0.mk ((by rw [hg]; exact Nat.ne_of_lt (blk_lt (g := gb582) (o := .cells #[.int .i64 a0_0, .int .i64 a0_1, .slice A0_2 l0_2.length c0_2, .int .i64 a0_3] 26 (0, 0)) (by (with_reducible repeat (first | refine blk_drewN ?_ _ | refine blk_drew ?_ | refine blk_alloc ?_ _)); exact BK582.out)) : gb582 ≠ gb603)); have n10_ := Aside0.mk ((by rw [hg]; exact Nat.ne_of_gt (blk_lt (g := gb582) (o := .cells #[.int .i64 a0_0, .int .i64 a0_1, .slice A0_2 l0_2.length c0_2, .int .i64 a0_3] 26 (0, 0)) (by (with_reducible repeat (first | refine blk_drewN ?_ _ | refine blk_drew ?_ | refine blk_alloc ?_ _)); exact BK582.out)) : gb603 ≠ gb582)); have n11_ := Aside0.mk ((by rw [hg]; exact Nat.ne_of_lt (blk_lt (g := gb583) (o := .cells #[.int .i64 a1_0, .int .i64 a1_1, .slice A1_2 l1_2.length c1_2, .int .i64 a1_3] 41 (0, 0)) (by (with_reducible repeat (first | refine blk_drewN ?_ _ | refine blk_drew ?_ | refine blk_alloc ?_ _)); exact BK583.out)) : gb583 ≠ gb603)); have n12_ := Aside0.mk ((by rw [hg]; exact Nat.ne_of_gt (blk_lt (g := gb583) (o := .cells #[.int .i64 a1_0, .int .i64 a1_1, .slice A1_2 l1_2.length c1_2, .int .i64 a1_3] 41 (0, 0)) (by (with_reducible repeat (first | refine blk_drewN ?_ _ | refine blk_drew ?_ | refine blk_alloc ?_ _)); exact BK583.out)) : gb603 ≠ gb583)); have n13_ := Aside0.mk ((by rw [hg]; exact Nat.ne_of_lt (blk_lt (g := gb593) (o := .cells #[.int .i64 t584, .int .i64 t585, .slice Ao103 t586.length co103, .int .i64 t589] 26 (0, 0)) (by (with_reducible repeat (first | refine blk_drewN ?_ _ | refine blk_drew ?_ | refine blk_alloc ?_ _)); exact BK593.out)) : gb593 ≠ gb603)); have n14_ := Aside0.mk ((by rw [hg]; exact Nat.ne_of_gt (blk_lt (g := gb593) (o := .cells #[.int .i64 t584, .int .i64 t585, .slice Ao103 t586.length co103, .int .i64 t589] 26 (0, 0)) (by (with_reducible repeat (first | refine blk_drewN ?_ _ | refine blk_drew ?_ | refine blk_alloc ?_ _)); exact BK593.out)) : gb603 ≠ gb593)); clear HO588; clear HO598; clear BK582; clear BK583; clear BK593; clear HB; have HO588 := n0_; have HO598 := n1_; have BK582 := n2_; have BK583 := n3_; have BK593 := n4_; have HB := n5_; have BK603 := n6_; have GW603 := n7_; have GE603 := n8_; have NB582_603 := n9_; have NB603_582 := n10_; have NB583_603 := n11_; have NB603_583 := n12_; have NB593_603 := n13_; have NB603_593 := n14_; clear n0_ n1_ n2_ n3_ n4_ n5_ n6_ n7_ n8_ n9_ n10_ n11_ n12_ n13_ n14_; clear hb hbox hg; have hnb107 := NB603_582.out; have hnc107 := NB582_603.out; have hnb108 := NB603_583.out; have hnc108 := NB583_603.out; have hnb109 := NB603_593.out; have hnc109 := NB593_603.out; have hcz110_0 : w106.cell? ⟨gb603, 0, none⟩ = some (.int .i64 0) := (blk_cell BK603.out 0).trans rfl; have hcz110_1 : w106.cell? ⟨gb603, 1, none⟩ = some (.int .i64 0) := (blk_cell BK603.out 1).trans rfl; have hcz110_2 : w106.cell? ⟨gb603, 2, none⟩ = some (.slice none 0 0) := (blk_cell BK603.out 2).trans rfl; have hcz110_3 : w106.cell? ⟨gb603, 3, none⟩ = some (.int .i64 0) := (blk_cell BK603.out 3).trans rfl; have hfz110_0 := blk_frozen BK603.out 0; have hfz110_1 := blk_frozen BK603.out 1; have hfz110_2 := blk_frozen BK603.out 2; have hfz110_3 := blk_frozen BK603.out 3; obtain ⟨Ao111, co111, eo111⟩ := Kd.R_slice HO598.out; subst eo111))
      go_ret
      exact ⟨by first | rfl | (simp [errW_none, errW_some] <;> rfl) | (simp [*, errW_none, errW_some] <;> rfl), by repeat (first | (with_reducible first | exact HB.out | apply below_alloc | apply pw_below_drewN | apply below_drew1 | refine below_set ?_ GE582.out | refine below_set ?_ GE583.out | refine below_set ?_ GE593.out | refine below_set ?_ GE603.out) | exact HB.out)⟩
  · rw [if_neg c4] at H
    have c4b0 : (t592 == 0) = false := beq_eq_false_iff_ne.mpr c4
    have c4b1 : (t592 != 0) = true := bne_iff_ne.mpr c4
    replace H := Option.bind_eq_some_iff.mp H
    obtain ⟨t606, A1120, H⟩ := H
    replace H : (some t606) = some r := H
    have A112 := Aside0.mk A1120
    clear A1120
    obtain rfl := Option.some.inj H
    go_enter Try.func8, Try.ntmps8
    go_wp2_with (first | ((with_reducible refine gate_dst (N := 2) rfl ?_); refine box_event ?hg (N := 2) ?hd (cs := #[.int .i64 a0_0, .int .i64 a0_1, .slice A0_2 l0_2.length c0_2, .int .i64 a0_3]) (t := 26) ?hr ?_; (case hd => rfl); (case hg => rfl); (case hr => first | (go_simp; done) | (go_simp; rfl)); intro gb582 hg w113 hbox hb; have n0_ := Aside0.mk (below_step (by repeat (first | (with_reducible first | exact HB.out | apply below_alloc | apply pw_below_drewN | apply below_drew1) | exact HB.out)) hb); have n1_ := Aside0.mk (hbox); have n2_ := Aside0.mk ((by rw [hg]; exact (below_size (by repeat (first | (with_reducible first | exact HB.out | apply below_alloc | apply pw_below_drewN | apply below_drew1) | exact HB.out))) : w.heap.size ≤ gb582)); have n3_ := Aside0.mk ((by rw [hg]; exact (below_size (by repeat (first | (with_reducible first | exact HB.out | apply below_alloc | apply pw_below_drewN | apply below_drew1) | exact HB.out))) : w.heap.size ≤ gb582)); clear HB; have HB := n0_; have BK582 := n1_; have GW582 := n2_; have GE582 := n3_; clear n0_ n1_ n2_ n3_; clear hb hbox hg) | ((with_reducible refine gate_dst (N := 3) rfl ?_); refine box_event ?hg (N := 3) ?hd (cs := #[.int .i64 a1_0, .int .i64 a1_1, .slice A1_2 l1_2.length c1_2, .int .i64 a1_3]) (t := 41) ?hr ?_; (case hd => rfl); (case hg => rfl); (case hr => first | (go_simp; done) | (go_simp; rfl)); intro gb583 hg w114 hbox hb; have n0_ := Aside0.mk (blk_below (g := gb582) (o := .cells #[.int .i64 a0_0, .int .i64 a0_1, .slice A0_2 l0_2.length c0_2, .int .i64 a0_3] 26 (0, 0)) (by (with_reducible repeat (first | refine blk_drewN ?_ _ | refine blk_drew ?_ | refine blk_alloc ?_ _)); exact BK582.out) hb); have n1_ := Aside0.mk (below_step (by repeat (first | (with_reducible first | exact HB.out | apply below_alloc | apply pw_below_drewN | apply below_drew1 | refine below_set ?_ GE582.out) | exact HB.out)) hb); have n2_ := Aside0.mk (hbox); have n3_ := Aside0.mk ((by rw [hg]; exact (below_size (by repeat (first | (with_reducible first | exact HB.out | apply below_alloc | apply pw_below_drewN | apply below_drew1 | refine below_set ?_ GE582.out) | exact HB.out))) : w.heap.size ≤ gb583)); have n4_ := Aside0.mk ((by rw [hg]; exact (below_size (by repeat (first | (with_reducible first | exact HB.out | apply below_alloc | apply pw_below_drewN | apply below_drew1 | refine below_set ?_ GE582.out) | exact HB.out))) : w.heap.size ≤ gb583)); have n5_ := Aside0.mk ((by rw [hg]; exact Nat.ne_of_lt (blk_lt (g := gb582) (o := .cells #[.int .i64 a0_0, .int .i64 a0_1, .slice A0_2 l0_2.length c0_2, .int .i64 a0_3] 26 (0, 0)) (by (with_reducible repeat (first | refine blk_drewN ?_ _ | refine blk_drew ?_ | refine blk_alloc ?_ _)); exact BK582.out)) : gb582 ≠ gb583)); have n6_ := Aside0.mk ((by rw [hg]; exact Nat.ne_of_gt (blk_lt (g := gb582) (o := .cells #[.int .i64 a0_0, .int .i64 a0_1, .slice A0_2 l0_2.length c0_2, .int .i64 a0_3] 26 (0, 0)) (by (with_reducible repeat (first | refine blk_drewN ?_ _ | refine blk_drew ?_ | refine blk_alloc ?_ _)); exact BK582.out)) : gb583 ≠ gb582)); clear BK582; clear HB; have BK582 := n0_; have HB := n1_; have BK583 := n2_; have GW583 := n3_; have GE583 := n4_; have NB582_583 := n5_; have NB583_582 := n6_; clear n0_ n1_ n2_ n3_ n4_ n5_ n6_; clear hb hbox hg; have hnb115 := NB582_583.out; have hnc115 := NB583_582.out; have hcz116_0 : w114.cell? ⟨gb582, 0, none⟩ = some (.int .i64 a0_0) := (blk_cell BK582.out 0).trans rfl; have hcz116_1 : w114.cell? ⟨gb582, 1, none⟩ = some (.int .i64 a0_1) := (blk_cell BK582.out 1).trans rfl; have hcz116_2 : w114.cell? ⟨gb582, 2, none⟩ = some (.slice A0_2 l0_2.length c0_2) := (blk_cell BK582.out 2).trans rfl; have hcz116_3 : w114.cell? ⟨gb582, 3, none⟩ = some (.int .i64 a0_3) := (blk_cell BK582.out 3).trans rfl; have hfz116_0 := blk_frozen BK582.out 0; have hfz116_1 := blk_frozen BK582.out 1; have hfz116_2 := blk_frozen BK582.out 2; have hfz116_3 := blk_frozen BK582.out 3; have hcz117_0 : w114.cell? ⟨gb583, 0, none⟩ = some (.int .i64 a1_0) := (blk_cell BK583.out 0).trans rfl; have hcz117_1 : w114.cell? ⟨gb583, 1, none⟩ = some (.int .i64 a1_1) := (blk_cell BK583.out 1).trans rfl; have hcz117_2 : w114.cell? ⟨gb583, 2, none⟩ = some (.slice A1_2 l1_2.length c1_2) := (blk_cell BK583.out 2).trans rfl; have hcz117_3 : w114.cell? ⟨gb583, 3, none⟩ = some (.int .i64 a1_3) := (blk_cell BK583.out 3).trans rfl; have hfz117_0 := blk_frozen BK583.out 0; have hfz117_1 := blk_frozen BK583.out 1; have hfz117_2 := blk_frozen BK583.out 2; have hfz117_3 := blk_frozen BK583.out 3) | ((with_reducible refine gate_callee (f := 20) rfl ?_); refine goesL_ (some 21) rfl rfl Try.func20 (by kernel_rfl) rfl #[.agg #[.int .i64 a0_0, .int .i64 a0_1, .slice A0_2 l0_2.length c0_2, .int .i64 a0_3], .agg #[.int .i64 a1_0, .int .i64 a1_1], .slice A1_2 l1_2.length c1_2, .int .i64 a1_3] rfl (by (try simp only [List.map_toArray, List.map_cons, List.map_nil]); first | done | rfl | (simp only [List.length_drop, List.length_take]; rfl)) ?_; (with_reducible refine (entries_Accept.calls k a0_0 a0_1 _ _ l0_2 a0_3 a1_0 a1_1 _ _ l1_2 a1_3 t584 t585 t586 t589 t590 t591 t592 _ ?side1 ?side2 ?side3 ?side4 A3.out).mono ?_); (case side1 => repeat (first | exact (Kd.C_below HR0_2.out HB.out) | (with_reducible refine Kd.C_alloc ?_ _) | (with_reducible refine Kd.C_drewN ?_ _) | (with_reducible refine Kd.C_drew ?_))); (case side2 => exact HC0_2.out); (case side3 => repeat (first | exact (Kd.C_below HR1_2.out HB.out) | (with_reducible refine Kd.C_alloc ?_ _) | (with_reducible refine Kd.C_drewN ?_ _) | (with_reducible refine Kd.C_drew ?_))); (case side4 => exact HC1_2.out); rintro e w118 ⟨v587, rfl, ho0, hb⟩; refine ⟨_, rfl, ?_⟩; have n0_ := Aside0.mk (Kd.R_lower ho0 (below_size (by repeat (first | (with_reducible first | exact HB.out | apply below_alloc | apply pw_below_drewN | apply below_drew1 | refine below_set ?_ GE582.out | refine below_set ?_ GE583.out) | exact HB.out)))); have n1_ := Aside0.mk (blk_below (g := gb582) (o := .cells #[.int .i64 a0_0, .int .i64 a0_1, .slice A0_2 l0_2.length c0_2, .int .i64 a0_3] 26 (0, 0)) (by (with_reducible repeat (first | refine blk_drewN ?_ _ | refine blk_drew ?_ | refine blk_alloc ?_ _)); exact BK582.out) hb); have n2_ := Aside0.mk (blk_below (g := gb583) (o := .cells #[.int .i64 a1_0, .int .i64 a1_1, .slice A1_2 l1_2.length c1_2, .int .i64 a1_3] 41 (0, 0)) (by (with_reducible repeat (first | refine blk_drewN ?_ _ | refine blk_drew ?_ | refine blk_alloc ?_ _)); exact BK583.out) hb); have n3_ := Aside0.mk (below_step (by repeat (first | (with_reducible first | exact HB.out | apply below_alloc | apply pw_below_drewN | apply below_drew1 | refine below_set ?_ GE582.out | refine below_set ?_ GE583.out) | exact HB.out)) hb); clear BK582; clear BK583; clear HB; have HO588 := n0_; have BK582 := n1_; have BK583 := n2_; have HB := n3_; clear n0_ n1_ n2_ n3_; (try clear hb); (try clear hb2); (try clear hk); (try clear hi); (try clear ho0)) | ((with_reducible refine gate_dst (N := 5) rfl ?_); refine box_event ?hg (N := 5) ?hd (cs := #[.int .i64 0, .int .i64 0, .slice none 0 0, .int .i64 0]) (t := 26) ?hr ?_; (case hd => rfl); (case hg => rfl); (case hr => first | (go_simp; done) | (go_simp; rfl)); intro gb593 hg w119 hbox hb; have n0_ := Aside0.mk (Kd.R_below (by (with_reducible repeat (first | apply Kd.R_alloc | apply Kd.R_drewN | apply Kd.R_drew)); exact HO588.out) hb); have n1_ := Aside0.mk (blk_below (g := gb582) (o := .cells #[.int .i64 a0_0, .int .i64 a0_1, .slice A0_2 l0_2.length c0_2, .int .i64 a0_3] 26 (0, 0)) (by (with_reducible repeat (first | refine blk_drewN ?_ _ | refine blk_drew ?_ | refine blk_alloc ?_ _)); exact BK582.out) hb); have n2_ := Aside0.mk (blk_below (g := gb583) (o := .cells #[.int .i64 a1_0, .int .i64 a1_1, .slice A1_2 l1_2.length c1_2, .int .i64 a1_3] 41 (0, 0)) (by (with_reducible repeat (first | refine blk_drewN ?_ _ | refine blk_drew ?_ | refine blk_alloc ?_ _)); exact BK583.out) hb); have n3_ := Aside0.mk (below_step (by repeat (first | (with_reducible first | exact HB.out | apply below_alloc | apply pw_below_drewN | apply below_drew1 | refine below_set ?_ GE582.out | refine below_set ?_ GE583.out) | exact HB.out)) hb); have n4_ := Aside0.mk (hbox); have n5_ := Aside0.mk ((by rw [hg]; exact (below_size (by repeat (first | (with_reducible first | exact HB.out | apply below_alloc | apply pw_below_drewN | apply below_drew1 | refine below_set ?_ GE582.out | refine below_set ?_ GE583.out) | exact HB.out))) : w.heap.size ≤ gb593)); have n6_ := Aside0.mk ((by rw [hg]; exact (below_size (by repeat (first | (with_reducible first | exact HB.out | apply below_alloc | apply pw_below_drewN | apply below_drew1 | refine below_set ?_ GE582.out | refine below_set ?_ GE583.out) | exact HB.out))) : w.heap.size ≤ gb593)); have n7_ := Aside0.mk ((by rw [hg]; exact Nat.ne_of_lt (blk_lt (g := gb582) (o := .cells #[.int .i64 a0_0, .int .i64 a0_1, .slice A0_2 l0_2.length c0_2, .int .i64 a0_3] 26 (0, 0)) (by (with_reducible repeat (first | refine blk_drewN ?_ _ | refine blk_drew ?_ | refine blk_alloc ?_ _)); exact BK582.out)) : gb582 ≠ gb593)); have n8_ := Aside0.mk ((by rw [hg]; exact Nat.ne_of_gt (blk_lt (g := gb582) (o := .cells #[.int .i64 a0_0, .int .i64 a0_1, .slice A0_2 l0_2.length c0_2, .int .i64 a0_3] 26 (0, 0)) (by (with_reducible repeat (first | refine blk_drewN ?_ _ | refine blk_drew ?_ | refine blk_alloc ?_ _)); exact BK582.out)) : gb593 ≠ gb582)); have n9_ := Aside0.mk ((by rw [hg]; exact Nat.ne_of_lt (blk_lt (g := gb583) (o := .cells #[.int .i64 a1_0, .int .i64 a1_1, .slice A1_2 l1_2.length c1_2, .int .i64 a1_3] 41 (0, 0)) (by (with_reducible repeat (first | refine blk_drewN ?_ _ | refine blk_drew ?_ | refine blk_alloc ?_ _)); exact BK583.out)) : gb583 ≠ gb593)); have n10_ := Aside0.mk ((by rw [hg]; exact Nat.ne_of_gt (blk_lt (g := gb583) (o := .cells #[.int .i64 a1_0, .int .i64 a1_1, .slice A1_2 l1_2.length c1_2, .int .i64 a1_3] 41 (0, 0)) (by (with_reducible repeat (first | refine blk_drewN ?_ _ | refine blk_drew ?_ | refine blk_alloc ?_ _)); exact BK583.out)) : gb593 ≠ gb583)); clear HO588; clear BK582; clear BK583; clear HB; have HO588 := n0_; have BK582 := n1_; have BK583 := n2_; have HB := n3_; have BK593 := n4_; have GW593 := n5_; have GE593 := n6_; have NB582_593 := n7_; have NB593_582 := n8_; have NB583_593 := n9_; have NB593_583 := n10_; clear n0_ n1_ n2_ n3_ n4_ n5_ n6_ n7_ n8_ n9_ n10_; clear hb hbox hg; have hnb120 := NB593_582.out; have hnc120 := NB582_593.out; have hnb121 := NB593_583.out; have hnc121 := NB583_593.out; have hcz122_0 : w119.cell? ⟨gb593, 0, none⟩ = some (.int .i64 0) := (blk_cell BK593.out 0).trans rfl; have hcz122_1 : w119.cell? ⟨gb593, 1, none⟩ = some (.int .i64 0) := (blk_cell BK593.out 1).trans rfl; have hcz122_2 : w119.cell? ⟨gb593, 2, none⟩ = some (.slice none 0 0) := (blk_cell BK593.out 2).trans rfl; have hcz122_3 : w119.cell? ⟨gb593, 3, none⟩ = some (.int .i64 0) := (blk_cell BK593.out 3).trans rfl; have hfz122_0 := blk_frozen BK593.out 0; have hfz122_1 := blk_frozen BK593.out 1; have hfz122_2 := blk_frozen BK593.out 2; have hfz122_3 := blk_frozen BK593.out 3; obtain ⟨Ao123, co123, eo123⟩ := Kd.R_slice HO588.out; subst eo123) | ((with_reducible refine gate_callee (f := 24) rfl ?_); refine goesL_ (some 28) rfl rfl Try.func24 (by kernel_rfl) rfl #[] rfl (by (try simp only [List.map_toArray, List.map_cons, List.map_nil]); first | done | rfl | (simp only [List.length_drop, List.length_take]; rfl)) ?_; (with_reducible refine (rialtolaw08_live.calls k  t606 _ A112.out).mono ?_); rintro e w124 ⟨rfl, hb⟩; refine ⟨_, rfl, ?_⟩; have n0_ := Aside0.mk (Kd.R_below (by (with_reducible repeat (first | apply Kd.R_alloc | apply Kd.R_drewN | apply Kd.R_drew)); exact (Kd.R_mono (Kd.R_far (p := ⟨gb593, 3, none⟩) (Kd.R_far (p := ⟨gb593, 2, none⟩) (Kd.R_far (p := ⟨gb593, 1, none⟩) (Kd.R_far (p := ⟨gb593, 0, none⟩) (Kd.R_types HO588.out BK593.out (by decide)) (fun _ hk => hk.2) (.int .i64 t584)) (fun _ hk => hk.2) (.int .i64 t585)) (fun _ hk => hk.2) (.slice Ao123 t586.length co123)) (fun _ hk => hk.2) (.int .i64 t589)) (fun _ h_ => h_.1))) hb); have n1_ := Aside0.mk (blk_below (g := gb582) (o := .cells #[.int .i64 a0_0, .int .i64 a0_1, .slice A0_2 l0_2.length c0_2, .int .i64 a0_3] 26 (0, 0)) (by (with_reducible repeat (first | refine blk_drewN ?_ _ | refine blk_drew ?_ | refine blk_alloc ?_ _)); refine blk_far ?_ NB582_593.out _; (with_reducible repeat (first | refine blk_drewN ?_ _ | refine blk_drew ?_ | refine blk_alloc ?_ _)); refine blk_far ?_ NB582_593.out _; (with_reducible repeat (first | refine blk_drewN ?_ _ | refine blk_drew ?_ | refine blk_alloc ?_ _)); refine blk_far ?_ NB582_593.out _; (with_reducible repeat (first | refine blk_drewN ?_ _ | refine blk_drew ?_ | refine blk_alloc ?_ _)); refine blk_far ?_ NB582_593.out _; (with_reducible repeat (first | refine blk_drewN ?_ _ | refine blk_drew ?_ | refine blk_alloc ?_ _)); exact BK582.out) hb); have n2_ := Aside0.mk (blk_below (g := gb583) (o := .cells #[.int .i64 a1_0, .int .i64 a1_1, .slice A1_2 l1_2.length c1_2, .int .i64 a1_3] 41 (0, 0)) (by (with_reducible repeat (first | refine blk_drewN ?_ _ | refine blk_drew ?_ | refine blk_alloc ?_ _)); refine blk_far ?_ NB583_593.out _; (with_reducible repeat (first | refine blk_drewN ?_ _ | refine blk_drew ?_ | refine blk_alloc ?_ _)); refine blk_far ?_ NB583_593.out _; (with_reducible repeat (first | refine blk_drewN ?_ _ | refine blk_drew ?_ | refine blk_alloc ?_ _)); refine blk_far ?_ NB583_593.out _; (with_reducible repeat (first | refine blk_drewN ?_ _ | refine blk_drew ?_ | refine blk_alloc ?_ _)); refine blk_far ?_ NB583_593.out _; (with_reducible repeat (first | refine blk_drewN ?_ _ | refine blk_drew ?_ | refine blk_alloc ?_ _)); exact BK583.out) hb); have n3_ := Aside0.mk (blk_below (g := gb593) (o := .cells #[.int .i64 t584, .int .i64 t585, .slice Ao123 t586.length co123, .int .i64 t589] 26 (0, 0)) (by (with_reducible repeat (first | refine blk_drewN ?_ _ | refine blk_drew ?_ | refine blk_alloc ?_ _)); refine blk_put (cs := #[.int .i64 t584, .int .i64 t585, .slice Ao123 t586.length co123, .int .i64 0]) ?_ 3 _ rfl; (with_reducible repeat (first | refine blk_drewN ?_ _ | refine blk_drew ?_ | refine blk_alloc ?_ _)); refine blk_put (cs := #[.int .i64 t584, .int .i64 t585, .slice none 0 0, .int .i64 0]) ?_ 2 _ rfl; (with_reducible repeat (first | refine blk_drewN ?_ _ | refine blk_drew ?_ | refine blk_alloc ?_ _)); refine blk_put (cs := #[.int .i64 t584, .int .i64 0, .slice none 0 0, .int .i64 0]) ?_ 1 _ rfl; (with_reducible repeat (first | refine blk_drewN ?_ _ | refine blk_drew ?_ | refine blk_alloc ?_ _)); refine blk_put (cs := #[.int .i64 0, .int .i64 0, .slice none 0 0, .int .i64 0]) ?_ 0 _ rfl; (with_reducible repeat (first | refine blk_drewN ?_ _ | refine blk_drew ?_ | refine blk_alloc ?_ _)); exact BK593.out) hb); have n4_ := Aside0.mk (below_step (by repeat (first | (with_reducible first | exact HB.out | apply below_alloc | apply pw_below_drewN | apply below_drew1 | refine below_set ?_ GE582.out | refine below_set ?_ GE583.out | refine below_set ?_ GE593.out) | exact HB.out)) hb); clear HO588; clear BK582; clear BK583; clear BK593; clear HB; have HO588 := n0_; have BK582 := n1_; have BK583 := n2_; have BK593 := n3_; have HB := n4_; clear n0_ n1_ n2_ n3_ n4_; (try clear hb); (try clear hb2); (try clear hk); (try clear hi)))
    go_ret
    exact ⟨by first | rfl | (simp [errW_none, errW_some] <;> rfl) | (simp [*, errW_none, errW_some] <;> rfl), by repeat (first | (with_reducible first | exact HB.out | apply below_alloc | apply pw_below_drewN | apply below_drew1 | refine below_set ?_ GE582.out | refine below_set ?_ GE583.out | refine below_set ?_ GE593.out) | exact HB.out)⟩

end Go.Proofs.Ytiebeiloooblpaa.E
end
section
-- the statement of a law, by myprint.py
namespace Go.Proofs.Ytiebeiloooblpaa.E
open Go.RowKit Go.Proofs.YtiebeiloooblpaaW.PrintWords Go.Proofs.YtiebeiloooblpaaW.PrintLast Go.Proofs.YtiebeiloooblpaaW.PrintMore
attribute [local go_sem] max2_int min2_int max_two min_two max_three min_three max_four min_four   -- for this text's walks alone
set_option linter.unusedVariables false
set_option linter.unusedSimpArgs false

def GEl33 (x : S33) : Prop := ((Lit.int .i64 x.f0).wf = true) ∧ ((Lit.int .i64 x.f1).wf = true) ∧ x.f2.size ≤ 1048576
/-- THE PURE STATEMENT of rialtolaw08_EntriesAgain. -/
def rialtolaw08_EntriesAgain.Pure : Prop := ∀ (a0_0 : Int) (a0_1 : Int) (l0_2 : List (S33)) (a0_3 : Int) (a1_0 : Int) (a1_1 : Int) (l1_2 : List (S33)) (a1_3 : Int), ((Lit.int .i64 a0_0).wf = true) → ((Lit.int .i64 a0_1).wf = true) → (l0_2.length ≤ 1048576 ∧ ∀ y_ ∈ l0_2, GEl33 y_) → ((Lit.int .i64 a0_3).wf = true) → ((Lit.int .i64 a1_0).wf = true) → ((Lit.int .i64 a1_1).wf = true) → (l1_2.length ≤ 1048576 ∧ ∀ y_ ∈ l1_2, GEl33 y_) → ((Lit.int .i64 a1_3).wf = true) → ∃ k, rialtolaw08_EntriesAgain.f k a0_0 a0_1 l0_2 a0_3 a1_0 a1_1 l1_2 a1_3 = some true
end Go.Proofs.Ytiebeiloooblpaa.E
end
section
/- Rounds: from some round on a function answers; words for plain laws. -/
namespace Go.Proofs.YtiebeiloooblpaaW.PrintWords
theorem Ev.eqv {α : Type} {F : Nat → Option α} {v u : α} (h : Ev F u) (e : u = v) : Ev F v := e ▸ h
theorem Ev.ite {α : Type} {c : Prop} [Decidable c] {F G : Nat → Option α} {v : α} (h : c → Ev F v) (g : ¬ c → Ev G v) : Ev (fun k => if c then F k else G k) v := by
  by_cases hc : c
  · simpa [hc] using h hc
  · simpa [hc] using g hc
theorem Ev.pos {α : Type} {c : Prop} [Decidable c] {F G : Nat → Option α} {v : α} (hc : c) (h : Ev F v) : Ev (fun k => if c then F k else G k) v := by
  simpa [hc] using h
theorem Ev.neg {α : Type} {c : Prop} [Decidable c] {F G : Nat → Option α} {v : α} (hc : ¬ c) (h : Ev G v) : Ev (fun k => if c then F k else G k) v := by
  simpa [hc] using h
theorem Ev.succ {α : Type} {F : Nat → Option α} {v : α} (h : Ev (fun k => F (k + 1)) v) : Ev F v := Ev.step (fun _ => rfl) h
end Go.Proofs.YtiebeiloooblpaaW.PrintWords
namespace Go.Proofs.YtiebeiloooblpaaEV
open Go.RowKit Go.Proofs.YtiebeiloooblpaaW.PrintWords
theorem w64 (n : Int) (h0 : -9223372036854775808 ≤ n) (h1 : n ≤ 9223372036854775807) : wrap64 n = n := by
  unfold wrap64; omega
theorem drop_one {α : Type} (l : List α) (d : α) (n : Nat) (h : n < l.length) : l.drop n = l.getD n d :: l.drop (n + 1) := by
  rw [List.drop_eq_getElem_cons h]; simp [List.getD, h]
end Go.Proofs.YtiebeiloooblpaaEV
end
section
-- written by myprint.py, a program of this session over the kit's print.py
namespace Go.Proofs.Ytiebeiloooblpaa.E
open Go.RowKit Go.Proofs.YtiebeiloooblpaaW.PrintWords Go.Proofs.YtiebeiloooblpaaW.PrintLast Go.Proofs.YtiebeiloooblpaaW.PrintMore
attribute [local go_sem] max2_int min2_int max_two min_two max_three min_three max_four min_four   -- for this text's walks alone
set_option linter.unusedVariables false
set_option linter.unusedSimpArgs false

/-! ### rialtoref07_within: function 54 -/
end Go.Proofs.Ytiebeiloooblpaa.E
end
section
-- written by myprint.py, a program of this session over the kit's print.py
namespace Go.Proofs.Ytiebeiloooblpaa.E
open Go.RowKit Go.Proofs.YtiebeiloooblpaaW.PrintWords Go.Proofs.YtiebeiloooblpaaW.PrintLast Go.Proofs.YtiebeiloooblpaaW.PrintMore
attribute [local go_sem] max2_int min2_int max_two min_two max_three min_three max_four min_four   -- for this text's walks alone
set_option linter.unusedVariables false
set_option linter.unusedSimpArgs false

/-! ### rialtoref07_Mark: function 40 -/
end Go.Proofs.Ytiebeiloooblpaa.E
end
section
-- written by myprint.py, a program of this session over the kit's print.py
namespace Go.Proofs.Ytiebeiloooblpaa.E
open Go.RowKit Go.Proofs.YtiebeiloooblpaaW.PrintWords Go.Proofs.YtiebeiloooblpaaW.PrintLast Go.Proofs.YtiebeiloooblpaaW.PrintMore
attribute [local go_sem] max2_int min2_int max_two min_two max_three min_three max_four min_four   -- for this text's walks alone
set_option linter.unusedVariables false
set_option linter.unusedSimpArgs false

/-! ### rialtoref08_within: function 45 -/
end Go.Proofs.Ytiebeiloooblpaa.E
end
section
-- written by myprint.py, a program of this session over the kit's print.py
namespace Go.Proofs.Ytiebeiloooblpaa.E
open Go.RowKit Go.Proofs.YtiebeiloooblpaaW.PrintWords Go.Proofs.YtiebeiloooblpaaW.PrintLast Go.Proofs.YtiebeiloooblpaaW.PrintMore
attribute [local go_sem] max2_int min2_int max_two min_two max_three min_three max_four min_four   -- for this text's walks alone
set_option linter.unusedVariables false
set_option linter.unusedSimpArgs false

/-! ### rialtoref08_Entry: function 52 -/
end Go.Proofs.Ytiebeiloooblpaa.E
end
section
-- written by myprint.py, a program of this session over the kit's print.py
namespace Go.Proofs.Ytiebeiloooblpaa.E
open Go.RowKit Go.Proofs.YtiebeiloooblpaaW.PrintWords Go.Proofs.YtiebeiloooblpaaW.PrintLast Go.Proofs.YtiebeiloooblpaaW.PrintMore
attribute [local go_sem] max2_int min2_int max_two min_two max_three min_three max_four min_four   -- for this text's walks alone
set_option linter.unusedVariables false
set_option linter.unusedSimpArgs false

/-! ### rialtoref08_Rows: function 46 -/
end Go.Proofs.Ytiebeiloooblpaa.E
end
section
-- written by myprint.py, a program of this session over the kit's print.py
namespace Go.Proofs.Ytiebeiloooblpaa.E
open Go.RowKit Go.Proofs.YtiebeiloooblpaaW.PrintWords Go.Proofs.YtiebeiloooblpaaW.PrintLast Go.Proofs.YtiebeiloooblpaaW.PrintMore
attribute [local go_sem] max2_int min2_int max_two min_two max_three min_three max_four min_four   -- for this text's walks alone
set_option linter.unusedVariables false
set_option linter.unusedSimpArgs false

/-! ### rialtoref08_end: function 47 -/
end Go.Proofs.Ytiebeiloooblpaa.E
end
section
-- written by myprint.py, a program of this session over the kit's print.py
namespace Go.Proofs.Ytiebeiloooblpaa.E
open Go.Proofs.YtiebeiloooblpaaST
open Go.RowKit Go.Proofs.YtiebeiloooblpaaW.PrintWords Go.Proofs.YtiebeiloooblpaaW.PrintLast Go.Proofs.YtiebeiloooblpaaW.PrintMore
attribute [local go_sem] max2_int min2_int max_two min_two max_three min_three max_four min_four   -- for this text's walks alone
set_option linter.unusedVariables false
set_option linter.unusedSimpArgs false

/-! ### rialtoref08_Check: function 31 -/
end Go.Proofs.Ytiebeiloooblpaa.E
end
section
-- written by myprint.py, a program of this session over the kit's print.py
namespace Go.Proofs.Ytiebeiloooblpaa.E
open Go.RowKit Go.Proofs.YtiebeiloooblpaaW.PrintWords Go.Proofs.YtiebeiloooblpaaW.PrintLast Go.Proofs.YtiebeiloooblpaaW.PrintMore
attribute [local go_sem] max2_int min2_int max_two min_two max_three min_three max_four min_four   -- for this text's walks alone
set_option linter.unusedVariables false
set_option linter.unusedSimpArgs false

/-! ### rialtoref08_TermAt: function 28 -/
end Go.Proofs.Ytiebeiloooblpaa.E
end
section
-- written by myprint.py, a program of this session over the kit's print.py
namespace Go.Proofs.Ytiebeiloooblpaa.E
open Go.RowKit Go.Proofs.YtiebeiloooblpaaW.PrintWords Go.Proofs.YtiebeiloooblpaaW.PrintLast Go.Proofs.YtiebeiloooblpaaW.PrintMore
attribute [local go_sem] max2_int min2_int max_two min_two max_three min_three max_four min_four   -- for this text's walks alone
set_option linter.unusedVariables false
set_option linter.unusedSimpArgs false

/-! ### rialtoref08_Copy: function 13 -/
end Go.Proofs.Ytiebeiloooblpaa.E
end
section
namespace Go.Proofs.Ytiebeiloooblpaa.Pure
open Go.RowKit Go.Proofs.Ytiebeiloooblpaa.E Go.Proofs.YtiebeiloooblpaaW.PrintWords Go.Proofs.YtiebeiloooblpaaW.PrintLast Go.Proofs.YtiebeiloooblpaaW.PrintMore Go.Proofs.YtiebeiloooblpaaEV
-- the plain law of layer 8's logs
def isEn (x : S33) : Bool := entries_isEntry.p x.f0 x.f1 x.f2
def isMk (i t : Int) : Bool := (decide (0 ≤ i) && decide (i ≤ 1000000)) && ((decide (0 ≤ t) && decide (t ≤ 1000000)) && ((i == 0) == (t == 0)))
def rows : List S33 → Int → Bool
  | [], _ => true
  | x :: l, f => isEn x && (decide (f ≤ x.f0) && rows l x.f0)
def chk (b0 b1 : Int) (l : List S33) (c : Int) : Bool := isMk b0 b1 && (decide (l.length ≤ 400) && (rows l b1 && (decide (b0 + l.length ≤ 1000000) && (decide (b0 ≤ c) && decide (c ≤ b0 + l.length)))))

theorem entries_within_eq (a b c : Int) : entries_within.f a b c = some (decide (b ≤ a) && decide (a ≤ c)) := by
  unfold entries_within.f; by_cases h : b ≤ a <;> simp [h]
theorem entries_isMark_eq (i t : Int) : entries_isMark.f i t = some (isMk i t) := by
  unfold entries_isMark.f isMk
  simp only [entries_within_eq, Option.bind_some]
  by_cases h : (decide (0 ≤ i) && decide (i ≤ 1000000)) = true
  · rw [if_pos h, h]
    by_cases g : (decide (0 ≤ t) && decide (t ≤ 1000000)) = true
    · rw [if_pos g, g]; simp
    · rw [if_neg g]; simp [Bool.eq_false_iff.mpr g]
  · rw [if_neg h]; simp [Bool.eq_false_iff.mpr h]
theorem rd33 (l : List S33) (n : Nat) : rd_T33 l (n : Int) = l.getD n z33 := by simp [rd_T33]

theorem entries_rising_l (l : List S33) (hl : l.length < 4398046511104) (m n : Nat) (hn : n + m = l.length) (a : Int) :
    Ev (fun k => entries_rising.l0 k a l (l.length : Int) (n : Int)) (rows (l.drop n) a) := by
  induction m generalizing n a with
  | zero =>
    refine Ev.succ ?_
    simp only [entries_rising.l0]
    refine Ev.neg (by omega) ?_
    rw [List.drop_eq_nil_of_le (by omega)]
    exact Ev.now _
  | succ m ih =>
    refine Ev.succ ?_
    simp only [entries_rising.l0]
    refine Ev.pos (by omega) ?_
    refine Ev.pos (by omega) ?_
    refine Ev.pos (by omega) ?_
    rw [rd33, drop_one l z33 n (by omega)]
    unfold entries_isEntry.f
    simp only [Option.bind_some, rows, isEn]
    by_cases h : entries_isEntry.p (l.getD n z33).f0 (l.getD n z33).f1 (l.getD n z33).f2 = true
    · simp only [h, if_true, Bool.true_and]
      by_cases g : (l.getD n z33).f0 < a
      · simp only [g, if_true]
        rw [decide_eq_false (show ¬ a ≤ (l.getD n z33).f0 by omega), Bool.false_and]
        exact Ev.now _
      · simp only [g, if_false]
        rw [w64 _ (by omega) (by omega)]
        have := ih (n + 1) (by omega) (l.getD n z33).f0
        rw [decide_eq_true (show a ≤ (l.getD n z33).f0 by omega), Bool.true_and]
        exact this
    · simp only [Bool.eq_false_iff.mpr h, Bool.false_eq_true, if_false, Bool.false_and]
      exact Ev.now _
theorem entries_rising_ev (l : List S33) (hl : l.length < 4398046511104) (a : Int) : Ev (fun k => entries_rising.f k l a) (rows l a) := by
  have := entries_rising_l l hl l.length 0 (by omega) a
  simpa [entries_rising.f] using this
theorem isMk_of {i t : Int} (h : isMk i t = true) : 0 ≤ i ∧ i ≤ 1000000 ∧ 0 ≤ t ∧ t ≤ 1000000 ∧ (i = 0 ↔ t = 0) := by
  simp only [isMk, Bool.and_eq_true, decide_eq_true_eq, beq_iff_eq] at h
  obtain ⟨⟨h1, h2⟩, ⟨h3, h4⟩, h5⟩ := h
  refine ⟨h1, h2, h3, h4, ?_⟩
  by_cases hi : i = 0
  · by_cases ht : t = 0
    · simp [hi, ht]
    · simp [hi, ht] at h5
  · by_cases ht : t = 0
    · simp [hi, ht] at h5
    · simp [hi, ht]
theorem chk_of {b0 b1 : Int} {l : List S33} {c : Int} (h : chk b0 b1 l c = true) : (0 ≤ b0 ∧ b0 ≤ 1000000 ∧ 0 ≤ b1 ∧ b1 ≤ 1000000 ∧ (b0 = 0 ↔ b1 = 0)) ∧ l.length ≤ 400 ∧ rows l b1 = true ∧ b0 + l.length ≤ 1000000 ∧ b0 ≤ c ∧ c ≤ b0 + l.length := by
  simp only [chk, Bool.and_eq_true, decide_eq_true_eq] at h
  obtain ⟨h1, h2, h3, h4, h5, h6⟩ := h
  exact ⟨isMk_of h1, h2, h3, h4, h5, h6⟩
theorem entries_Check_ev (b0 b1 : Int) (l : List S33) (c : Int) (hl : l.length < 4398046511104) :
    Ev (fun k => entries_Check.f k b0 b1 l c) (if chk b0 b1 l c = true then 0 else 80) := by
  unfold entries_Check.f chk
  simp only [entries_isMark_eq, Option.bind_some]
  by_cases h1 : isMk b0 b1 = true
  · have hm := isMk_of h1
    simp only [h1, if_true, Bool.true_and]
    by_cases h2 : (l.length : Int) > 400
    · simp only [h2, if_true]
      rw [decide_eq_false (show ¬ l.length ≤ 400 by omega)]
      simp only [Bool.false_and, Bool.false_eq_true, if_false]
      exact Ev.now _
    · simp only [h2, if_false]
      rw [decide_eq_true (show l.length ≤ 400 by omega)]
      simp only [Bool.true_and]
      refine Ev.bind (entries_rising_ev l hl b1) ?_
      by_cases h3 : rows l b1 = true
      · simp only [h3, if_true, Bool.true_and, entries_end.f, Option.bind_some, entries_within_eq]
        rw [w64 _ (by omega) (by omega)]
        by_cases h4 : b0 + (l.length : Int) ≤ 1000000
        · refine Ev.neg (by omega) ?_
          simp only [h4, decide_true, Bool.true_and]
          refine Ev.ite (fun h5 => ?_) (fun h5 => ?_)
          · rw [h5]; exact Ev.now _
          · rw [Bool.eq_false_iff.mpr h5]; exact Ev.now _
        · refine Ev.pos (by omega) ?_
          simp only [h4, decide_false, Bool.false_and, Bool.false_eq_true, if_false]
          exact Ev.now _
      · simp only [Bool.eq_false_iff.mpr h3, Bool.false_and, Bool.false_eq_true, if_false]
        exact Ev.now _
  · simp only [Bool.eq_false_iff.mpr h1, Bool.false_and, Bool.false_eq_true, if_false]
    exact Ev.now _
/-- the term at an index of a log -/
def termAt (b0 b1 : Int) (l : List S33) (c i : Int) : Int × Bool :=
  if chk b0 b1 l c = true ∧ b0 ≤ i ∧ i ≤ b0 + l.length then (if i = b0 then (b1, true) else ((l.getD (i - b0 - 1).toNat z33).f0, true)) else (0, false)
theorem entries_TermAt_ev (b0 b1 : Int) (l : List S33) (c i : Int) (hl : l.length < 4398046511104) :
    Ev (fun k => entries_TermAt.f k b0 b1 l c i) (termAt b0 b1 l c i) := by
  unfold entries_TermAt.f termAt
  refine Ev.bind (entries_Check_ev b0 b1 l c hl) ?_
  by_cases h1 : chk b0 b1 l c = true
  · obtain ⟨hm, hn, hr, he, hc⟩ := chk_of h1
    simp only [h1, if_true, true_and, entries_end.f, entries_within_eq, Option.bind_some]
    rw [w64 _ (by omega) (by omega)]
    refine Ev.succ ?_
    simp only [entries_TermAt.j0]
    by_cases h2 : b0 ≤ i ∧ i ≤ b0 + l.length
    · rw [if_pos h2]
      obtain ⟨h2, h3⟩ := h2
      refine Ev.neg (by simp; omega) ?_
      by_cases h4 : i = b0
      · refine Ev.eqv ?_ (if_pos h4).symm
        exact Ev.pos h4 (Ev.now _)
      · refine Ev.eqv ?_ (if_neg h4).symm
        have e : wrap64 (wrap64 (i - b0) - 1) = i - b0 - 1 := by rw [w64 (i - b0) (by omega) (by omega), w64 _ (by omega) (by omega)]
        rw [e]
        exact Ev.neg h4 (Ev.pos (by omega) (Ev.pos (by omega) (Ev.now _)))
    · rw [if_neg h2]
      exact Ev.pos (by simp; omega) (Ev.now _)
  · simp only [Bool.eq_false_iff.mpr h1, Bool.false_eq_true, if_false, false_and]
    refine Ev.neg (by omega) ?_
    refine Ev.succ ?_
    simp only [entries_TermAt.j0, if_true]
    exact Ev.now _
theorem ref08_SameEntries_l (l : List S33) (hl : l.length < 4398046511104) (m n : Nat) (hn : n + m = l.length) :
    Ev (fun k => rialtoref08_SameEntries.l0 k l l (n : Int)) true := by
  induction m generalizing n with
  | zero =>
    refine Ev.succ ?_
    simp only [rialtoref08_SameEntries.l0]
    refine Ev.neg (by omega) ?_
    exact Ev.now _
  | succ m ih =>
    refine Ev.succ ?_
    simp only [rialtoref08_SameEntries.l0]
    refine Ev.pos (by omega) ?_
    refine Ev.pos (by omega) ?_
    refine Ev.pos (by omega) ?_
    refine Ev.neg (by simp) ?_
    rw [w64 _ (by omega) (by omega)]
    exact ih (n + 1) (by omega)
theorem ref08_SameEntries_ev (l : List S33) (hl : l.length < 4398046511104) : Ev (fun k => rialtoref08_SameEntries.f k l l) true := by
  have := ref08_SameEntries_l l hl l.length 0 (by omega)
  simpa [rialtoref08_SameEntries.f] using this
theorem ref08_Same_ev (b0 b1 : Int) (l : List S33) (c : Int) (hl : l.length < 4398046511104) : Ev (fun k => rialtoref08_Same.f k b0 b1 l c b0 b1 l c) true := by
  unfold rialtoref08_Same.f
  refine Ev.pos (by simp) ?_
  refine Ev.pos rfl ?_
  exact Ev.bind (ref08_SameEntries_ev l hl) (Ev.now _)
theorem slicesClone_Entry_eq (l : List S33) (hl : l.length < 4398046511104) : slicesClone_Entry.f l = some l := by
  unfold slicesClone_Entry.f; rw [if_pos (by omega)]
end Go.Proofs.Ytiebeiloooblpaa.Pure
end
section
-- written by myprint.py, a program of this session over the kit's print.py
namespace Go.Proofs.Ytiebeiloooblpaa.E
open Go.Proofs.YtiebeiloooblpaaST
open Go.RowKit Go.Proofs.YtiebeiloooblpaaW.PrintWords Go.Proofs.YtiebeiloooblpaaW.PrintLast Go.Proofs.YtiebeiloooblpaaW.PrintMore
attribute [local go_sem] max2_int min2_int max_two min_two max_three min_three max_four min_four   -- for this text's walks alone
set_option linter.unusedVariables false
set_option linter.unusedSimpArgs false

/-! ### rialtoref08_Last: function 33 -/
end Go.Proofs.Ytiebeiloooblpaa.E
end
section
-- written by myprint.py, a program of this session over the kit's print.py
namespace Go.Proofs.Ytiebeiloooblpaa.E
open Go.RowKit Go.Proofs.YtiebeiloooblpaaW.PrintWords Go.Proofs.YtiebeiloooblpaaW.PrintLast Go.Proofs.YtiebeiloooblpaaW.PrintMore
attribute [local go_sem] max2_int min2_int max_two min_two max_three min_three max_four min_four   -- for this text's walks alone
set_option linter.unusedVariables false
set_option linter.unusedSimpArgs false

/-! ### entries_From: function 29 -/
end Go.Proofs.Ytiebeiloooblpaa.E
end
section
-- written by myprint.py, a program of this session over the kit's print.py
namespace Go.Proofs.Ytiebeiloooblpaa.E
open Go.RowKit Go.Proofs.YtiebeiloooblpaaW.PrintWords Go.Proofs.YtiebeiloooblpaaW.PrintLast Go.Proofs.YtiebeiloooblpaaW.PrintMore
attribute [local go_sem] max2_int min2_int max_two min_two max_three min_three max_four min_four   -- for this text's walks alone
set_option linter.unusedVariables false
set_option linter.unusedSimpArgs false

/-! ### rialtoref08_From: function 34 -/
end Go.Proofs.Ytiebeiloooblpaa.E
end
section
-- written by myprint.py, a program of this session over the kit's print.py
namespace Go.Proofs.Ytiebeiloooblpaa.E
open Go.RowKit Go.Proofs.YtiebeiloooblpaaW.PrintWords Go.Proofs.YtiebeiloooblpaaW.PrintLast Go.Proofs.YtiebeiloooblpaaW.PrintMore
attribute [local go_sem] max2_int min2_int max_two min_two max_three min_three max_four min_four   -- for this text's walks alone
set_option linter.unusedVariables false
set_option linter.unusedSimpArgs false

/-! ### rialtolaw08_spoil: function 23 -/
end Go.Proofs.Ytiebeiloooblpaa.E
end
section
namespace Go.Proofs.Ytiebeiloooblpaa.Pure
open Go.RowKit Go.Proofs.Ytiebeiloooblpaa.E Go.Proofs.YtiebeiloooblpaaW.PrintWords Go.Proofs.YtiebeiloooblpaaW.PrintLast Go.Proofs.YtiebeiloooblpaaW.PrintMore Go.Proofs.YtiebeiloooblpaaEV
-- the plain law of layer 8: the last mark, entries from an index on
theorem live8_ev : Ev (fun k => rialtolaw08_live.f k) true := Ev.of (k := 30) (fun k => rialtolaw08_live.mono k) (by kernel_rfl)
end Go.Proofs.Ytiebeiloooblpaa.Pure
end
section
-- written by myprint.py, a program of this session over the kit's print.py
namespace Go.Proofs.Ytiebeiloooblpaa.E
open Go.Proofs.YtiebeiloooblpaaST
open Go.RowKit Go.Proofs.YtiebeiloooblpaaW.PrintWords Go.Proofs.YtiebeiloooblpaaW.PrintLast Go.Proofs.YtiebeiloooblpaaW.PrintMore
attribute [local go_sem] max2_int min2_int max_two min_two max_three min_three max_four min_four   -- for this text's walks alone
set_option linter.unusedVariables false
set_option linter.unusedSimpArgs false

/-! ### rialtoref08_Accept: function 21 -/
end Go.Proofs.Ytiebeiloooblpaa.E
end
section
namespace Go.Proofs.Ytiebeiloooblpaa.Pure
open Go.RowKit Go.Proofs.Ytiebeiloooblpaa.E Go.Proofs.YtiebeiloooblpaaW.PrintWords Go.Proofs.YtiebeiloooblpaaW.PrintLast Go.Proofs.YtiebeiloooblpaaW.PrintMore Go.Proofs.YtiebeiloooblpaaEV
-- the plain law of layer 8: what is accepted
/-- from entry i on: the log that comes out; none: what is committed would be lost -/
def cut (b0 b1 : Int) (l : List S33) (c p0 : Int) : Nat → List S33 → Option (List S33)
  | _, [] => some l
  | i, e :: es => if p0 + 1 + i ≤ b0 then cut b0 b1 l c p0 (i + 1) es else if (termAt b0 b1 l c (p0 + 1 + i)).2 = true ∧ (termAt b0 b1 l c (p0 + 1 + i)).1 = e.f0 then cut b0 b1 l c p0 (i + 1) es
    else if p0 + 1 + i ≤ c then none else some (l.take (p0 + 1 + i - b0 - 1).toNat ++ e :: es)
def fin (b0 b1 : Int) (c p0 n cm : Int) (out : List S33) : Int × Int × List S33 × Int × Int × Bool × Int :=
  if rows out b1 = true then (if (out.length : Int) > 400 ∨ b0 + (out.length : Int) > 1000000 then (0, 0, [], 0, 0, false, 2) else (b0, b1, out, mx c (mn cm (p0 + n)), mx (p0 + n) b0, true, 0)) else (0, 0, [], 0, 0, false, 80)
def accRest (b0 b1 : Int) (l : List S33) (c p0 : Int) (es : List S33) (cm : Int) : Int × Int × List S33 × Int × Int × Bool × Int :=
  match cut b0 b1 l c p0 0 es with
  | none => (0, 0, [], 0, 0, false, 80)
  | some out => fin b0 b1 c p0 es.length cm out
def acc (b0 b1 : Int) (l : List S33) (c p0 p1 : Int) (es : List S33) (cm : Int) : Int × Int × List S33 × Int × Int × Bool × Int :=
  if chk b0 b1 l c = true then (if isMk p0 p1 = true ∧ (0 ≤ cm ∧ cm ≤ 1000000) ∧ rows es p1 = true then
    (if p0 ≥ b0 ∧ ¬ ((termAt b0 b1 l c p0).2 = true ∧ (termAt b0 b1 l c p0).1 = p1) then (b0, b1, l, c, 0, false, 0) else accRest b0 b1 l c p0 es cm)
    else (0, 0, [], 0, 0, false, 1)) else (0, 0, [], 0, 0, false, 80)
theorem termAt_end {b0 b1 : Int} {l : List S33} {c i : Int} (h : (termAt b0 b1 l c i).2 = true) : b0 ≤ i ∧ i ≤ b0 + l.length := by
  unfold termAt at h
  split at h
  · rename_i g; exact g.2
  · cases h
section
variable (b0 b1 : Int) (l : List S33) (c p0 p1 : Int) (es : List S33) (cm : Int)
theorem entries_j3 (h1 : chk b0 b1 l c = true) (hp : 0 ≤ p0 ∧ p0 ≤ 1000000) (hes : es.length ≤ 4398046510000) (out : List S33) (ho : out.length ≤ 4398046511000) :
    Ev (fun k => entries_Accept.j3 k es cm b0 b1 l c p0 p1 b0 b1 out c) (fin b0 b1 c p0 es.length cm out) := by
  obtain ⟨hm, hn, hr, he, hc⟩ := chk_of h1
  refine Ev.succ ?_
  simp only [entries_Accept.j3, entries_end.f, Option.bind_some]
  unfold fin
  refine Ev.bind (entries_rising_ev out (by omega) b1) ?_
  by_cases h2 : rows out b1 = true
  · rw [w64 (b0 + (out.length : Int)) (by omega) (by omega), w64 (p0 + (es.length : Int)) (by omega) (by omega)]
    refine Ev.eqv (Ev.pos h2 ?_) (if_pos h2).symm
    by_cases h3 : (out.length : Int) > 400
    · exact Ev.eqv (Ev.pos h3 (Ev.now _)) (if_pos (.inl h3)).symm
    · by_cases h4 : b0 + (out.length : Int) > 1000000
      · exact Ev.eqv (Ev.neg h3 (Ev.pos h4 (Ev.now _))) (if_pos (.inr h4)).symm
      · exact Ev.eqv (Ev.neg h3 (Ev.neg h4 (Ev.now _))) (if_neg (by omega)).symm
  · exact Ev.eqv (Ev.neg h2 (Ev.now _)) (if_neg h2).symm
/-- what the rest of the round answers, from entry i on -/
def restV (i : Nat) : Int × Int × List S33 × Int × Int × Bool × Int :=
  match cut b0 b1 l c p0 i (es.drop i) with
  | none => (0, 0, [], 0, 0, false, 80)
  | some out => fin b0 b1 c p0 es.length cm out
theorem entries_l0 (h1 : chk b0 b1 l c = true) (hp : 0 ≤ p0 ∧ p0 ≤ 1000000) (hes : es.length ≤ 4398046510000) (d : Nat) : ∀ i : Nat, i + d = es.length → p0 + i ≤ b0 + l.length ∨ p0 + i < b0 →
    Ev (fun k => entries_Accept.l0 k es cm es (es.length : Int) (i : Int) b0 b1 l c p0 p1 b0 b1 l c) (restV b0 b1 l c p0 es cm i) := by
  obtain ⟨hm, hn, hr, he, hc⟩ := chk_of h1
  induction d with
  | zero =>
    intro i hi hat
    refine Ev.succ ?_
    simp only [entries_Accept.l0]
    refine Ev.neg (by omega) ?_
    unfold restV
    rw [List.drop_eq_nil_of_le (by omega)]
    exact entries_j3 b0 b1 l c p0 p1 es cm h1 hp hes l (by omega)
  | succ d ih =>
    intro i hi hat
    have hdr := drop_one es z33 i (by omega)
    refine Ev.succ ?_
    simp only [entries_Accept.l0]
    rw [w64 (p0 + 1) (by omega) (by omega), w64 (p0 + 1 + (i : Int)) (by omega) (by omega), w64 ((i : Int) + 1) (by omega) (by omega)]
    refine Ev.pos (by omega) (Ev.pos (by omega) (Ev.pos (by omega) ?_))
    unfold restV
    rw [hdr]
    unfold cut
    by_cases h2 : p0 + 1 + (i : Int) ≤ b0
    · rw [if_pos h2]
      exact Ev.pos h2 (ih (i + 1) (by omega) (by omega))
    · rw [if_neg h2]
      refine Ev.neg h2 (Ev.bind (entries_TermAt_ev b0 b1 l c _ (by omega)) ?_)
      have next : Ev (fun k => entries_Accept.l0 k es cm es (es.length : Int) ((i : Int) + 1) b0 b1 l c p0 p1 b0 b1 l c) (restV b0 b1 l c p0 es cm (i + 1)) ∨ ¬ (termAt b0 b1 l c (p0 + 1 + i)).2 = true := by
        by_cases g : (termAt b0 b1 l c (p0 + 1 + i)).2 = true
        · have := termAt_end g
          exact .inl (ih (i + 1) (by omega) (by omega))
        · exact .inr g
      have bad : p0 + 1 + (i : Int) ≤ b0 + l.length + 1 := by omega
      have stop : Ev (fun k => entries_Accept.j2 k es cm (i : Int) (p0 + 1 + (i : Int)) es (es.length : Int) (i : Int) false b0 b1 l c p0 p1 b0 b1 l c)
          (match (if p0 + 1 + (i : Int) ≤ c then none else some (l.take (p0 + 1 + i - b0 - 1).toNat ++ es.getD i z33 :: es.drop (i + 1))) with | none => (0, 0, [], 0, 0, false, 80) | some out => fin b0 b1 c p0 es.length cm out) := by
        refine Ev.succ ?_
        simp only [entries_Accept.j2, Bool.false_eq_true, if_false]
        rw [w64 (p0 + 1 + (i : Int) - b0) (by omega) (by omega), w64 (p0 + 1 + (i : Int) - b0 - 1) (by omega) (by omega)]
        by_cases h3 : p0 + 1 + (i : Int) ≤ c
        · rw [if_pos h3]; exact Ev.pos h3 (Ev.now _)
        · rw [if_neg h3]
          refine Ev.neg h3 (Ev.pos (by omega) (Ev.pos (by omega) (Ev.bind (Ev.now _) (Ev.pos (by omega) (Ev.pos (by omega) (Ev.bind (Ev.now _) ?_))))))
          rw [Int.toNat_natCast, hdr]
          refine Ev.pos (by simp; omega) ?_
          exact entries_j3 b0 b1 l c p0 p1 es cm h1 hp hes _ (by simp; omega)
      by_cases h3 : (termAt b0 b1 l c (p0 + 1 + i)).2 = true
      · refine Ev.pos h3 ?_
        by_cases h4 : (termAt b0 b1 l c (p0 + 1 + i)).1 = (es.getD i z33).f0
        · rw [if_pos ⟨h3, h4⟩, rd33, h4]
          refine Ev.succ ?_
          simp only [entries_Accept.j2, beq_self_eq_true, if_true]
          rw [w64 ((i : Int) + 1) (by omega) (by omega)]
          exact next.resolve_right (fun g => g h3)
        · rw [if_neg (fun g => h4 g.2), rd33, beq_eq_false_iff_ne.mpr h4]
          exact stop
      · rw [if_neg (fun g => h3 g.1)]
        exact Ev.neg h3 stop
theorem accRest_eq : accRest b0 b1 l c p0 es cm = restV b0 b1 l c p0 es cm 0 := by
  unfold accRest restV; rw [List.drop_zero]
theorem entries_Accept_ev (hl : l.length < 4398046511104) (hes : es.length ≤ 4398046510000) : Ev (fun k => entries_Accept.f k b0 b1 l c p0 p1 es cm) (acc b0 b1 l c p0 p1 es cm) := by
  unfold entries_Accept.f acc
  refine Ev.bind (entries_Check_ev b0 b1 l c hl) ?_
  by_cases h1 : chk b0 b1 l c = true
  · obtain ⟨hm, hn, hr, he, hc⟩ := chk_of h1
    simp only [h1, if_true, entries_isMark_eq, entries_within_eq, Option.bind_some]
    by_cases h2 : isMk p0 p1 = true
    · obtain ⟨q0, q1, -, -, -⟩ := isMk_of h2
      simp only [h2, if_true, true_and]
      by_cases h3 : 0 ≤ cm ∧ cm ≤ 1000000
      · refine Ev.pos (show (decide (0 ≤ cm) && decide (cm ≤ 1000000)) = true by simp; omega) ?_
        refine Ev.bind (entries_rising_ev es (by omega) p1) ?_
        by_cases h4 : rows es p1 = true
        · simp only [h4, if_true, h3, and_self]
          rw [slicesClone_Entry_eq l hl]
          refine Ev.bind (Ev.now _) ?_
          have rest : (p0 + 0 ≤ b0 + l.length ∨ p0 + 0 < b0) → Ev (fun k => entries_Accept.j0 k es cm b0 b1 l c p0 p1 b0 b1 l c) (accRest b0 b1 l c p0 es cm) := by
            intro g
            refine Ev.succ ?_
            simp only [entries_Accept.j0]
            rw [accRest_eq]
            exact entries_l0 b0 b1 l c p0 p1 es cm h1 ⟨q0, q1⟩ hes es.length 0 (by omega) (by simpa using g)
          by_cases h5 : p0 ≥ b0
          · refine Ev.pos h5 (Ev.bind (entries_TermAt_ev b0 b1 l c p0 hl) ?_)
            by_cases h6 : (termAt b0 b1 l c p0).2 = true
            · refine Ev.pos h6 ?_
              by_cases h7 : (termAt b0 b1 l c p0).1 = p1
              · have := termAt_end h6
                exact Ev.eqv (Ev.pos h7 (rest (by omega))) (if_neg (fun g => g.2 ⟨h6, h7⟩)).symm
              · exact Ev.eqv (Ev.neg h7 (Ev.now _)) (if_pos ⟨h5, fun g => h7 g.2⟩).symm
            · exact Ev.eqv (Ev.neg h6 (Ev.now _)) (if_pos ⟨h5, fun g => h6 g.1⟩).symm
          · exact Ev.eqv (Ev.neg h5 (rest (by omega))) (if_neg (fun g => h5 g.1)).symm
        · simp only [Bool.eq_false_iff.mpr h4, Bool.false_eq_true, if_false, and_false]
          exact Ev.now _
      · exact Ev.eqv (Ev.neg (show ¬ (decide (0 ≤ cm) && decide (cm ≤ 1000000)) = true by simp; omega) (Ev.now _)) (if_neg (fun g => h3 g.1)).symm
    · simp only [Bool.eq_false_iff.mpr h2, Bool.false_eq_true, if_false, false_and]
      exact Ev.now _
  · simp only [Bool.eq_false_iff.mpr h1, Bool.false_eq_true, if_false]
    exact Ev.neg (by omega) (Ev.now _)
end
theorem acc_len (b0 b1 : Int) (l : List S33) (c p0 p1 : Int) (es : List S33) (cm : Int) (hl : l.length < 4398046511104) : (acc b0 b1 l c p0 p1 es cm).2.2.1.length < 4398046511104 := by
  unfold acc
  split
  · split
    · split
      · exact hl
      · unfold accRest
        split
        · simp
        · unfold fin
          split
          · split
            · simp
            · rename_i h; dsimp only; omega
          · simp
    · simp
  · simp

end Go.Proofs.Ytiebeiloooblpaa.Pure
end
section
namespace Go.Proofs.Ytiebeiloooblpaa.Pure
open Go.RowKit Go.Proofs.Ytiebeiloooblpaa.E Go.Proofs.YtiebeiloooblpaaW.PrintWords Go.Proofs.YtiebeiloooblpaaW.PrintLast Go.Proofs.YtiebeiloooblpaaW.PrintMore Go.Proofs.YtiebeiloooblpaaEV
-- the plain law of layer 8: what stays, and what is sent again
theorem cut_spec (b0 b1 : Int) (l : List S33) (c p0 : Int) (h1 : chk b0 b1 l c = true) : ∀ (es : List S33) (i : Nat) (out : List S33), (p0 + i ≤ b0 + l.length ∨ p0 + i < b0) → cut b0 b1 l c p0 i es = some out →
    (∀ q : Nat, (q : Int) < p0 + i - b0 → out[q]? = l[q]?) ∧ (∀ q : Nat, (q : Int) < c - b0 → out[q]? = l[q]?) ∧
    (∀ (j : Nat) (e : S33), es[j]? = some e → b0 < p0 + 1 + i + j → ∃ x, out[(p0 + i + j - b0).toNat]? = some x ∧ x.f0 = e.f0) ∧ c ≤ b0 + out.length ∧ (p0 + i ≤ b0 + out.length ∨ p0 + i < b0) := by
  obtain ⟨hm, hn, hr, he, hc⟩ := chk_of h1
  intro es
  induction es with
  | nil =>
    intro i out hi h
    simp only [cut, Option.some.injEq] at h
    subst h
    exact ⟨fun _ _ => rfl, fun _ _ => rfl, fun j e hj => by simp at hj, hc.2, hi⟩
  | cons e es ih =>
    intro i out hi h
    unfold cut at h
    by_cases h2 : p0 + 1 + (i : Int) ≤ b0
    · rw [if_pos h2] at h
      obtain ⟨A, D, C, L, I⟩ := ih (i + 1) out (by omega) h
      refine ⟨fun q hq => A q (by omega), D, fun j x hj hb => ?_, L, by omega⟩
      cases j with
      | zero => omega
      | succ j =>
        obtain ⟨y, hy⟩ := C j x (by simpa using hj) (by omega)
        exact ⟨y, by rw [← hy.1]; congr 1; omega, hy.2⟩
    · rw [if_neg h2] at h
      by_cases h3 : (termAt b0 b1 l c (p0 + 1 + i)).2 = true ∧ (termAt b0 b1 l c (p0 + 1 + i)).1 = e.f0
      · rw [if_pos h3] at h
        have hte := termAt_end h3.1
        obtain ⟨A, D, C, L, I⟩ := ih (i + 1) out (by omega) h
        refine ⟨fun q hq => A q (by omega), D, fun j x hj hb => ?_, L, by omega⟩
        cases j with
        | zero =>
          obtain rfl : e = x := by simpa using hj
          have hlt : (p0 + (i : Int) - b0).toNat < l.length := by omega
          have hA := A (p0 + (i : Int) - b0).toNat (by omega)
          have h4 := h3.2
          unfold termAt at h4
          rw [if_pos ⟨h1, by omega, by omega⟩, if_neg (by omega), show (p0 + 1 + (i : Int) - b0 - 1).toNat = (p0 + (i : Int) - b0).toNat by omega] at h4
          refine ⟨l[(p0 + (i : Int) - b0).toNat], ?_, by simpa [List.getD, hlt] using h4⟩
          rw [show (p0 + (i : Int) + ((0 : Nat) : Int) - b0).toNat = (p0 + (i : Int) - b0).toNat by omega, hA, List.getElem?_eq_getElem hlt]
        | succ j =>
          obtain ⟨y, hy⟩ := C j x (by simpa using hj) (by omega)
          exact ⟨y, by rw [← hy.1]; congr 1; omega, hy.2⟩
      · rw [if_neg h3] at h
        by_cases h4 : p0 + 1 + (i : Int) ≤ c
        · rw [if_pos h4] at h; cases h
        · rw [if_neg h4] at h
          cases h
          have hl : (l.take (p0 + 1 + (i : Int) - b0 - 1).toNat).length = (p0 + (i : Int) - b0).toNat := by rw [List.length_take]; omega
          have A : ∀ q : Nat, (q : Int) < p0 + i - b0 → (l.take (p0 + 1 + (i : Int) - b0 - 1).toNat ++ e :: es)[q]? = l[q]? := fun q hq => by
            rw [List.getElem?_append_left (by omega), List.getElem?_take_of_lt (by omega)]
          refine ⟨A, fun q hq => A q (by omega), fun j x hj hb => ⟨x, ?_, rfl⟩, by simp only [List.length_append, hl, List.length_cons]; omega, by simp only [List.length_append, hl, List.length_cons]; omega⟩
          rw [List.getElem?_append_right (by omega), hl, show (p0 + (i : Int) + (j : Int) - b0).toNat - (p0 + (i : Int) - b0).toNat = j by omega]
          exact hj
theorem cut_all (b0 b1 : Int) (l : List S33) (c p0 : Int) : ∀ (es : List S33) (i : Nat), (∀ (j : Nat) (e : S33), es[j]? = some e → b0 < p0 + 1 + i + j → (termAt b0 b1 l c (p0 + 1 + i + j)).2 = true ∧ (termAt b0 b1 l c (p0 + 1 + i + j)).1 = e.f0) → cut b0 b1 l c p0 i es = some l := by
  intro es
  induction es with
  | nil => intro i _; rfl
  | cons e es ih =>
    intro i h
    have hn : cut b0 b1 l c p0 (i + 1) es = some l := ih (i + 1) (fun j x hj hb => by
      have := h (j + 1) x (by simpa using hj) (by omega)
      rwa [show p0 + 1 + (i : Int) + ((j + 1 : Nat) : Int) = p0 + 1 + ((i + 1 : Nat) : Int) + (j : Int) by omega] at this)
    unfold cut
    split
    · exact hn
    · rename_i h2
      have := h 0 e rfl (by omega)
      rw [show p0 + 1 + (i : Int) + ((0 : Nat) : Int) = p0 + 1 + (i : Int) by omega] at this
      rw [if_pos this]; exact hn
theorem mx_le {a b : Int} : a ≤ mx a b ∧ b ≤ mx a b := by unfold mx; split <;> omega
theorem mx_or (a b : Int) : mx a b = a ∨ mx a b = b := by unfold mx; split <;> simp
theorem mn_le {a b : Int} : mn a b ≤ a ∧ mn a b ≤ b := by unfold mn; split <;> omega
theorem mx_mx (a b : Int) : mx (mx a b) b = mx a b := by
  rcases mx_or a b with e | e <;> rw [e]
  · exact e
  · unfold mx; simp
theorem termAt_some {b0 b1 : Int} {l : List S33} {c i : Int} (h1 : chk b0 b1 l c = true) (h2 : b0 < i) {x : S33} (hx : l[(i - b0 - 1).toNat]? = some x) : termAt b0 b1 l c i = (x.f0, true) := by
  have := (List.getElem?_eq_some_iff.1 hx).1
  unfold termAt
  rw [if_pos ⟨h1, by omega, by omega⟩, if_neg (by omega)]
  simp only [List.getD, hx, Option.getD_some]
/-- what a log that was accepted is -/
theorem acc_ok {b0 b1 : Int} {l : List S33} {c p0 p1 : Int} {es : List S33} {cm : Int} (h : (acc b0 b1 l c p0 p1 es cm).2.2.2.2.2.2 = 0) :
    acc b0 b1 l c p0 p1 es cm = (b0, b1, l, c, 0, false, 0) ∨ ∃ out, chk b0 b1 l c = true ∧ isMk p0 p1 = true ∧ (0 ≤ cm ∧ cm ≤ 1000000) ∧ rows es p1 = true ∧ (p0 ≥ b0 → (termAt b0 b1 l c p0).2 = true ∧ (termAt b0 b1 l c p0).1 = p1) ∧
      cut b0 b1 l c p0 0 es = some out ∧ rows out b1 = true ∧ out.length ≤ 400 ∧ b0 + (out.length : Int) ≤ 1000000 ∧ acc b0 b1 l c p0 p1 es cm = (b0, b1, out, mx c (mn cm (p0 + es.length)), mx (p0 + es.length) b0, true, 0) := by
  by_cases h1 : chk b0 b1 l c = true
  · by_cases h2 : isMk p0 p1 = true ∧ (0 ≤ cm ∧ cm ≤ 1000000) ∧ rows es p1 = true
    · by_cases h3 : p0 ≥ b0 ∧ ¬ ((termAt b0 b1 l c p0).2 = true ∧ (termAt b0 b1 l c p0).1 = p1)
      · left; unfold acc; rw [if_pos h1, if_pos h2, if_pos h3]
      · right
        have ha : acc b0 b1 l c p0 p1 es cm = accRest b0 b1 l c p0 es cm := by unfold acc; rw [if_pos h1, if_pos h2, if_neg h3]
        rw [ha] at h ⊢
        unfold accRest at h ⊢
        cases hc : cut b0 b1 l c p0 0 es with
        | none => rw [hc] at h; simp at h
        | some out =>
          rw [hc] at h
          simp only [fin] at h ⊢
          by_cases h4 : rows out b1 = true
          · rw [if_pos h4] at h ⊢
            by_cases h5 : (out.length : Int) > 400 ∨ b0 + (out.length : Int) > 1000000
            · rw [if_pos h5] at h; simp at h
            · rw [if_neg h5]
              exact ⟨out, h1, h2.1, h2.2.1, h2.2.2, fun g => Classical.not_not.1 (fun g' => h3 ⟨g, g'⟩), rfl, h4, by omega, by omega, rfl⟩
          · rw [if_neg h4] at h; simp at h
    · unfold acc at h; rw [if_pos h1, if_neg h2] at h; simp at h
  · unfold acc at h; rw [if_neg h1] at h; simp at h
theorem acc_chk {b0 b1 : Int} {l : List S33} {c p0 : Int} {es : List S33} {cm : Int} {out : List S33} (h1 : chk b0 b1 l c = true) (h2 : p0 ≥ b0 → (termAt b0 b1 l c p0).2 = true) (hc : cut b0 b1 l c p0 0 es = some out) (hr : rows out b1 = true) (hn : out.length ≤ 400) (he : b0 + (out.length : Int) ≤ 1000000) :
    chk b0 b1 out (mx c (mn cm (p0 + es.length))) = true := by
  obtain ⟨-, hn', hr', he', hcc⟩ := chk_of h1
  have h3 : p0 + ((0 : Nat) : Int) ≤ b0 + l.length ∨ p0 + ((0 : Nat) : Int) < b0 := by
    by_cases g : p0 ≥ b0
    · have := termAt_end (h2 g); omega
    · omega
  obtain ⟨A, D, C, L, I⟩ := cut_spec b0 b1 l c p0 h1 es 0 out h3 hc
  have hmk : isMk b0 b1 = true := by simp only [chk, Bool.and_eq_true] at h1; exact h1.1
  have a1 := @mx_le c (mn cm (p0 + es.length))
  have a2 := @mn_le cm (p0 + es.length)
  simp only [chk, hmk, hr, Bool.true_and, Bool.and_eq_true, decide_eq_true_eq]
  refine ⟨hn, he, by omega, ?_⟩
  rcases mx_or c (mn cm (p0 + es.length)) with e | e
  · rw [e]; exact L
  · rw [e]
    by_cases g : p0 + (es.length : Int) ≤ b0
    · omega
    · by_cases h0 : es.length = 0
      · omega
      · obtain ⟨x, hx, -⟩ := C (es.length - 1) es[es.length - 1] (List.getElem?_eq_getElem (by omega)) (by omega)
        have := (List.getElem?_eq_some_iff.1 hx).1
        omega
theorem acc_again {b0 b1 : Int} {l : List S33} {c p0 p1 : Int} {es : List S33} {cm : Int} (h : (acc b0 b1 l c p0 p1 es cm).2.2.2.2.2.2 = 0) :
    acc (acc b0 b1 l c p0 p1 es cm).1 (acc b0 b1 l c p0 p1 es cm).2.1 (acc b0 b1 l c p0 p1 es cm).2.2.1 (acc b0 b1 l c p0 p1 es cm).2.2.2.1 p0 p1 es cm = acc b0 b1 l c p0 p1 es cm := by
  rcases acc_ok h with e | ⟨out, h1, hp, hcm, hes, h2, hc, hr, hn, he, e⟩
  · rw [e]; exact e
  · rw [e]
    have hk := acc_chk (cm := cm) h1 (fun g => (h2 g).1) hc hr hn he
    obtain ⟨q0, q1, -, -, -⟩ := isMk_of hp
    have h3 : p0 + ((0 : Nat) : Int) ≤ b0 + l.length ∨ p0 + ((0 : Nat) : Int) < b0 := by
      by_cases g : p0 ≥ b0
      · have := termAt_end (h2 g).1; omega
      · omega
    obtain ⟨A, D, C, L, I⟩ := cut_spec b0 b1 l c p0 h1 es 0 out h3 hc
    have h4 : ¬ (p0 ≥ b0 ∧ ¬ ((termAt b0 b1 out (mx c (mn cm (p0 + es.length))) p0).2 = true ∧ (termAt b0 b1 out (mx c (mn cm (p0 + es.length))) p0).1 = p1)) := by
      rintro ⟨g, g'⟩
      apply g'
      obtain ⟨t1, t2⟩ := h2 g
      have hte := termAt_end t1
      by_cases hb : p0 = b0
      · unfold termAt at t2 ⊢
        rw [if_pos ⟨h1, by omega, by omega⟩, if_pos hb] at t2
        rw [if_pos ⟨hk, by omega, by omega⟩, if_pos hb]
        exact ⟨rfl, t2⟩
      · have hlt : (p0 - b0 - 1).toNat < l.length := by omega
        have hx : l[(p0 - b0 - 1).toNat]? = some l[(p0 - b0 - 1).toNat] := List.getElem?_eq_getElem hlt
        rw [termAt_some h1 (by omega) hx] at t2
        rw [termAt_some hk (by omega) (by rw [A _ (by omega)]; exact hx)]
        exact ⟨rfl, t2⟩
    have h5 : cut b0 b1 out (mx c (mn cm (p0 + es.length))) p0 0 es = some out := cut_all _ _ _ _ _ es 0 (fun j x hj hb => by
      obtain ⟨y, hy, hf⟩ := C j x hj hb
      rw [termAt_some hk (by omega) (by rw [← hy]; congr 1; omega)]
      exact ⟨rfl, hf⟩)
    show acc b0 b1 out _ p0 p1 es cm = _
    unfold acc accRest
    rw [if_pos hk, if_pos ⟨hp, hcm, hes⟩, if_neg h4, h5]
    simp only [fin]
    rw [if_pos hr, if_neg (by omega), mx_mx]

end Go.Proofs.Ytiebeiloooblpaa.Pure
end
section
namespace Go.Proofs.Ytiebeiloooblpaa.Pure
open Go.RowKit Go.Proofs.Ytiebeiloooblpaa.E Go.Proofs.YtiebeiloooblpaaW.PrintWords Go.Proofs.YtiebeiloooblpaaW.PrintLast Go.Proofs.YtiebeiloooblpaaW.PrintMore Go.Proofs.YtiebeiloooblpaaEV
theorem EntriesAgain : rialtolaw08_EntriesAgain.Pure := by
  intro b0 b1 l c p0 p1 es cm hb0 hb1 hl hc hp0 hp1 hes hcm
  have hn : l.length < 4398046511104 := by have := hl.1; omega
  have hm : es.length ≤ 4398046510000 := by have := hes.1; omega
  have hlen := acc_len b0 b1 l c p0 p1 es cm hn
  refine Ev.rounds ?_
  unfold rialtolaw08_EntriesAgain.f
  refine Ev.bind (entries_Accept_ev b0 b1 l c p0 p1 es cm hn hm) ?_
  by_cases h : (acc b0 b1 l c p0 p1 es cm).2.2.2.2.2.2 = 0
  · refine Ev.pos h (Ev.bind (entries_Accept_ev _ _ _ _ p0 p1 es cm hlen hm) ?_)
    rw [acc_again h]
    exact Ev.pos h (Ev.pos rfl (Ev.pos (by simp) (Ev.bind (ref08_Same_ev _ _ _ _ hlen) (Ev.pos rfl (Ev.bind live8_ev (Ev.now _))))))
  · exact Ev.neg h (Ev.bind live8_ev (Ev.now _))

end Go.Proofs.Ytiebeiloooblpaa.Pure
end
section
/- Helper lemmas of this session: an argument that reads as data, opened to plain values, whatever its type's depth; and what its size says. -/
namespace Go.Proofs.YtiebeiloooblpaaO
open Go.RowKit Go.Proofs.YtiebeiloooblpaaW.PrintWords Go.Deep

/-- What a bound on a reading says of its slices' lengths (S) and its strings' (T), at every depth. -/
structure Sizes (P : Program) (Bd : (H : Type) → TypeId → DataW H → Prop) (S : TypeId → Nat → Prop) (T : Nat → Prop) : Prop where
  slice : ∀ (H : Type) (t e : TypeId) (es sp : List (DataW H)), P.underlying t = some (.slice e) → Bd H t (.slice es sp) → S e es.length ∧ ∀ d ∈ es, Bd H e d
  zero : ∀ e, S e 0
  string : ∀ (H : Type) (t : TypeId) (bs : List UInt8), Bd H t (.lit (.string bs)) → T bs.length
  struct : ∀ (H : Type) (t : TypeId) (fs : Array Field) (ps : List (DataW H)), P.underlying t = some (.struct fs) → Bd H t (.agg ps) → ∀ (i : Nat) (f : Field) (p : DataW H), fs[i]? = some f → ps[i]? = some p → Bd H f.type p

/-- Values of type t read as d's; G: what is known of them. -/
structure Opens {α : Type} (P : Program) (Bd : (H : Type) → TypeId → DataW H → Prop) (t : TypeId) (d : Kd α) (G : α → Prop) : Prop where
  go : ∀ (H : Type) (enc : TypeId × Value → H) (w : World) (base : Nat) (spare : Nat → Bool) (held : Bool) (fuel : Nat) (cs : List Value) (x : DataW H × List MemPlace),
    DataW.trod enc P w base spare held fuel t cs = some x → Bd H t x.1 → ∃ v, d.K w v cs ∧ G v

theorem add_add' (a : Addr) (i j : Nat) : (a.add i).add j = a.add (i + j) := by
  unfold Addr.add
  by_cases h1 : i = 0 <;> by_cases h2 : j = 0 <;> simp [h1, h2, Nat.add_assoc]
theorem listOf {α : Type} {Q : Nat → α → Prop} : ∀ n, (∀ i, i < n → ∃ v, Q i v) → ∃ xs : List α, xs.length = n ∧ ∀ i p, xs[i]? = some p → Q i p
  | 0, _ => ⟨[], rfl, fun i p h => by simp at h⟩
  | n + 1, h => by
    obtain ⟨xs, hl, hx⟩ := listOf n (fun i hi => h i (by omega))
    obtain ⟨v, hv⟩ := h n (Nat.lt_succ_self n)
    refine ⟨xs ++ [v], by simp [hl], fun i p hp => ?_⟩
    rcases Nat.lt_or_ge i xs.length with hi | hi
    · rw [List.getElem?_append_left hi] at hp
      exact hx i p hp
    · have hlt := (List.getElem?_eq_some_iff.1 hp).1
      rw [List.length_append, List.length_singleton] at hlt
      obtain rfl : i = n := by omega
      rw [List.getElem?_append_right hi] at hp
      simp [hl] at hp
      subst hp
      exact hv

section
variable {P : Program} {Bd : (H : Type) → TypeId → DataW H → Prop} {S : TypeId → Nat → Prop} {T : Nat → Prop}

theorem Opens.int {t : TypeId} {k : IntKind} (ht : P.underlying t = some (.int k)) : Opens P Bd t (Kd.int k) (fun n => (Lit.int k n).wf = true) where
  go H enc w base spare held fuel cs x h hb := by
    obtain ⟨n, rfl, _, hw⟩ := DataW.trod_int ht h
    exact ⟨n, rfl, hw⟩
theorem Opens.string (Z : Sizes P Bd S T) {t : TypeId} (ht : P.underlying t = some .string) : Opens P Bd t Kd.string (fun s => T s.size) where
  go H enc w base spare held fuel cs x h hb := by
    obtain ⟨s, rfl, rfl, _⟩ := DataW.trod_string ht h
    have h1 := Z.string H t _ hb
    rw [Array.length_toList] at h1
    exact ⟨s, rfl, h1⟩
theorem Opens.iso {α β : Type} {d : Kd α} {G : α → Prop} {t : TypeId} (f : β → α) (g : α → β) (hfg : ∀ y, f (g y) = y) (O : Opens P Bd t d G) : Opens P Bd t (Kd.iso d f) (fun x => G (f x)) where
  go H enc w base spare held fuel cs x h hb := by
    obtain ⟨v, hK, hG⟩ := O.go H enc w base spare held fuel cs x h hb
    exact ⟨g v, by show d.K w (f (g v)) cs; rw [hfg]; exact hK, by show G (f (g v)); rw [hfg]; exact hG⟩
theorem Opens.bool {t : TypeId} (ht : P.underlying t = some .bool) : Opens P Bd t Kd.bool (fun _ => True) where
  go H enc w base spare held fuel cs x h hb := by
    cases fuel with
    | zero => simp [DataW.trod] at h
    | succ n =>
      unfold DataW.trod at h
      rw [ht] at h
      split at h <;> first | exact ⟨_, rfl, trivial⟩ | simp_all
theorem Opens.slice (Z : Sizes P Bd S T) {α : Type} {d : Kd α} {G : α → Prop} {t e : TypeId} {S' : Nat → Prop} (hS : ∀ n, S e n → S' n) (ht : P.underlying t = some (.slice e)) (hs : P.cellsOf e = d.sz) (O : Opens P Bd e d G) :
    Opens P Bd t (Kd.slice e d) (fun xs => S' xs.length ∧ ∀ x ∈ xs, G x) where
  go H enc w base spare held fuel cs x h hb := by
    rcases open_slice ht h with ⟨rfl, rfl⟩ | ⟨a, len, cap, m, n, D, Pl, rfl, _, hl, hm, hmm, rfl, hi⟩
    · exact ⟨[], ⟨none, 0, rfl, Nat.le_refl _, Kd.C_nil d w⟩, hS _ (Z.zero e), fun x h => by cases h⟩
    · have hlm : len ≤ m := by rw [hmm]; split <;> omega
      obtain ⟨h1, h2⟩ := Z.slice H t e _ _ ht hb
      rw [List.length_map, List.length_range] at h1
      replace h1 := hS _ h1
      have hel : ∀ i, i < len → ∃ v cs', d.K w v cs' ∧ G v ∧ (∀ j u, cs'[j]? = some u → w.cell? (a.add (i * d.sz + j)) = some u) := by
        intro i hil
        obtain ⟨cs', hc, htr⟩ := hi i (by omega)
        rw [hs] at hc
        obtain ⟨_, hcl, hat⟩ := World.cells?_some hc
        obtain ⟨v, hK, hG⟩ := O.go H enc w base spare held n cs' _ htr (h2 _ (List.mem_map.2 ⟨i, List.mem_range.2 hil, rfl⟩))
        refine ⟨v, cs', hK, hG, fun j u hu => ?_⟩
        have hj : j < d.sz := by rw [← hcl]; exact (List.getElem?_eq_some_iff.1 hu).1
        rw [← add_add', hat j hj, hu]
      obtain ⟨xs, hxl, hx⟩ := listOf len hel
      refine ⟨xs, ⟨some a, cap, by rw [hxl], by rw [hxl]; exact hl, ⟨rfl, by rw [hxl]; simp only [maxLen] at hm; omega, fun hp => ⟨a, rfl, fun j p hj => ?_⟩⟩⟩, by rw [hxl]; exact h1, fun x hxm => ?_⟩
      · obtain ⟨cs', hK, _, hc⟩ := hx j p hj
        exact ⟨cs', d.K_len hK, hK, hc⟩
      · obtain ⟨i, hi⟩ := List.mem_iff_getElem?.1 hxm
        obtain ⟨_, _, hG, _⟩ := hx i x hi
        exact hG

/-- The fields of a struct, from one on. -/
structure OpensFs {α : Type} (P : Program) (Bd : (H : Type) → TypeId → DataW H → Prop) (fs : List Field) (off : Nat) (d : Kd α) (G : α → Prop) : Prop where
  go : ∀ (H : Type) (enc : TypeId × Value → H) (w : World) (base : Nat) (spare : Nat → Bool) (held : Bool) (n : Nat) (cs : List Value) (xs : List (DataW H × List MemPlace)),
    xs.length = fs.length → (∀ (i : Nat) (f : Field), fs[i]? = some f → DataW.trod enc P w base spare held n f.type ((cs.drop f.offset).take (P.cellsOf f.type)) = xs[i]?) → cs.length = off + d.sz →
    (∀ (i : Nat) (f : Field) (p : DataW H × List MemPlace), fs[i]? = some f → xs[i]? = some p → Bd H f.type p.1) → ∃ v, d.K w v (cs.drop off) ∧ G v
theorem OpensFs.one {α : Type} {d : Kd α} {G : α → Prop} {f : Field} {off : Nat} (ho : f.offset = off) (hs : P.cellsOf f.type = d.sz) (O : Opens P Bd f.type d G) : OpensFs P Bd [f] off d G where
  go H enc w base spare held n cs xs hl ht hc hb := by
    obtain ⟨x, rfl⟩ : ∃ x, xs = [x] := List.length_eq_one_iff.1 hl
    have h1 := ht 0 f rfl
    have h2 := hb 0 f x rfl rfl
    rw [ho, hs, List.take_of_length_le (by rw [List.length_drop]; omega)] at h1
    exact O.go H enc w base spare held n _ x (by simpa using h1) h2
theorem OpensFs.cons {α β : Type} {a : Kd α} {b : Kd β} {G : α → Prop} {G' : β → Prop} {f : Field} {fs : List Field} {off : Nat} (ho : f.offset = off) (hs : P.cellsOf f.type = a.sz) (O : Opens P Bd f.type a G)
    (O' : OpensFs P Bd fs (off + a.sz) b G') : OpensFs P Bd (f :: fs) off (Kd.pair a b) (fun v => G v.1 ∧ G' v.2) where
  go H enc w base spare held n cs xs hl ht hc hb := by
    obtain ⟨x, xs, rfl⟩ : ∃ x r, xs = x :: r := by
      cases xs with
      | nil => simp at hl
      | cons x r => exact ⟨x, r, rfl⟩
    have h1 := ht 0 f rfl
    have h2 := hb 0 f x rfl rfl
    rw [ho, hs] at h1
    have hsz : (Kd.pair a b).sz = a.sz + b.sz := rfl
    obtain ⟨v, hv, hg⟩ := O.go H enc w base spare held n _ x (by simpa using h1) h2
    obtain ⟨u, hu, hg'⟩ := O'.go H enc w base spare held n cs xs (by simpa using hl) (fun i f' hf => by simpa using ht (i + 1) f' (by simpa using hf)) (by rw [hc, hsz]; omega) (fun i f' p hf hp => hb (i + 1) f' p (by simpa using hf) (by simpa using hp))
    refine ⟨(v, u), ⟨_, _, ?_, hv, hu⟩, hg, hg'⟩
    rw [← List.drop_drop, List.take_append_drop]
theorem Opens.struct (Z : Sizes P Bd S T) {α : Type} {d : Kd α} {G : α → Prop} {t : TypeId} {fs : Array Field} (ht : P.underlying t = some (.struct fs)) (hs : P.cellsOf t = d.sz) (O : OpensFs P Bd fs.toList 0 d G) : Opens P Bd t d G where
  go H enc w base spare held fuel cs x h hb := by
    obtain ⟨xs, n, _, rfl, hlen, hxl, hf⟩ := DataW.trod_struct ht h
    have h1 := O.go H enc w base spare held n cs xs (by simpa using hxl) (fun i f hi => hf i f (by simpa using hi)) (by rw [hlen, hs]; omega) (fun i f p hi hp => Z.struct H t fs _ ht hb i f p.1 (by simpa using hi) (by rw [List.getElem?_map, hp]; rfl))
    simpa using h1

end

/-- By the second form's bulk. -/
def BdBulk (H : Type) (_ : TypeId) (d : DataW H) : Prop := Go.Proofs.Ytiebeiloooblpaa.Rows.uptoBulk d ≤ 1048576
theorem bulk_one_le {H : Type} (d : DataW H) : 1 ≤ Go.Proofs.Ytiebeiloooblpaa.Rows.uptoBulk d := by
  cases d with
  | lit l => cases l <;> simp [Go.Proofs.Ytiebeiloooblpaa.Rows.uptoBulk]
  | nil => simp [Go.Proofs.Ytiebeiloooblpaa.Rows.uptoBulk]
  | ptr d => simp [Go.Proofs.Ytiebeiloooblpaa.Rows.uptoBulk]
  | slice elems spare => simp [Go.Proofs.Ytiebeiloooblpaa.Rows.uptoBulk]
  | agg parts => simp [Go.Proofs.Ytiebeiloooblpaa.Rows.uptoBulk]
  | iface t d => simp [Go.Proofs.Ytiebeiloooblpaa.Rows.uptoBulk]
  | map entries => simp [Go.Proofs.Ytiebeiloooblpaa.Rows.uptoBulk]
  | held h => simp [Go.Proofs.Ytiebeiloooblpaa.Rows.uptoBulk]
theorem bulk_part_le {H : Type} {d : DataW H} {l : List (DataW H)} (h : d ∈ l) : Go.Proofs.Ytiebeiloooblpaa.Rows.uptoBulk d ≤ Go.Proofs.Ytiebeiloooblpaa.Rows.uptoBulkAll l := by
  induction l with
  | nil => cases h
  | cons x r ih =>
    simp only [Go.Proofs.Ytiebeiloooblpaa.Rows.uptoBulkAll]
    cases List.mem_cons.1 h with
    | inl e => subst e; omega
    | inr e => have := ih e; omega
theorem bulk_length_le {H : Type} (l : List (DataW H)) : l.length ≤ Go.Proofs.Ytiebeiloooblpaa.Rows.uptoBulkAll l := by
  induction l with
  | nil => simp [Go.Proofs.Ytiebeiloooblpaa.Rows.uptoBulkAll]
  | cons x r ih => have := bulk_one_le x; simp only [Go.Proofs.Ytiebeiloooblpaa.Rows.uptoBulkAll, List.length_cons]; omega
theorem sizesBulk (P : Program) : Sizes P BdBulk (fun _ n => n ≤ 1048576) (fun n => n ≤ 1048576) where
  slice H t e es sp _ h := by
    unfold BdBulk at h
    rw [Go.Proofs.Ytiebeiloooblpaa.Rows.uptoBulk] at h
    have h1 := bulk_length_le es
    exact ⟨by omega, fun d hd => by have := bulk_part_le hd; unfold BdBulk; omega⟩
  zero e := by simp
  string H t bs h := by
    unfold BdBulk at h
    rw [Go.Proofs.Ytiebeiloooblpaa.Rows.uptoBulk] at h
    omega
  struct H t fs ps _ h i f p _ hp := by
    unfold BdBulk at h ⊢
    rw [Go.Proofs.Ytiebeiloooblpaa.Rows.uptoBulk] at h
    have := bulk_part_le (List.mem_of_getElem? hp)
    omega
theorem bulk_bound {H : Type} {l : List (DataW H)} (hk : Go.Proofs.Ytiebeiloooblpaa.Rows.uptoSmall H l = true) : Go.Proofs.Ytiebeiloooblpaa.Rows.uptoBulkAll l ≤ 1048576 := by
  unfold Go.Proofs.Ytiebeiloooblpaa.Rows.uptoSmall at hk
  exact of_decide_eq_true hk
theorem bulk_arg {H : Type} {l : List (DataW H)} (hk : Go.Proofs.Ytiebeiloooblpaa.Rows.uptoSmall H l = true) {d : DataW H} (h : d ∈ l) (t : TypeId) : BdBulk H t d := by
  have h1 := bulk_bound hk
  have h2 := bulk_part_le h
  unfold BdBulk
  omega
end Go.Proofs.YtiebeiloooblpaaO
end
