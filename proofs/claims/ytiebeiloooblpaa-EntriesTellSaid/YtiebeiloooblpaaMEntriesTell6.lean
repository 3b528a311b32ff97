/- Part 6 of the proof of EntriesTell: the texts that it needs, put together by a program of this session. -/
import Derived.ProofKit
import Derived.RowKit
import Derived.Test.YtiebeiloooblpaaMEntriesTell5
section
-- written by myprint.py, a program of this session over the kit's print.py
namespace Go.Proofs.Ytiebeiloooblpaa.E
open Go.Proofs.YtiebeiloooblpaaST
open Go.RowKit Go.Proofs.YtiebeiloooblpaaW.PrintWords Go.Proofs.YtiebeiloooblpaaW.PrintLast Go.Proofs.YtiebeiloooblpaaW.PrintMore
attribute [local go_sem] max2_int min2_int max_two min_two max_three min_three max_four min_four   -- for this text's walks alone
set_option linter.unusedVariables false
set_option linter.unusedSimpArgs false

/-! ### rialtoref08_Check: function 31 -/
def rialtoref08_Check.f (k : Nat) (a0_0 : Int) (a0_1 : Int) (l0_2 : List (S33)) (a0_3 : Int) : Option (Int) := (rialtoref07_Mark.f a0_0 a0_1).bind fun t329 => (if t329 = true then (if (l0_2.length : Int) > 400 then (some 80) else ((rialtoref08_Rows.f k l0_2 a0_1).bind fun t330 => (if t330 = true then ((rialtoref08_end.f a0_0 a0_1 l0_2 a0_3).bind fun t331 => (if t331 > 1000000 then (some 80) else ((rialtoref08_end.f a0_0 a0_1 l0_2 a0_3).bind fun t332 => ((rialtoref08_within.f a0_3 a0_0 t332).bind fun t333 => (if t333 = true then (some 0) else (some 80)))))) else (some 80)))) else (some 80))
def rialtoref08_Check.T1 : Bool × List (List Nat × List Nat) := (true, [([], []), ([0], [0]), ([1], [1]), ([2], [2]), ([3, 2], [3]), ([4], [4]), ([5, 4], [4, 5]), ([6, 4], [4, 6]), ([7, 4], [4, 7]), ([4, 8], [4, 8]), ([9, 4], [9]), ([10], [10]), ([11, 10], [10, 11]), ([10], [10]), ([13, 10], [10, 13]), ([14, 10], [10, 14]), ([12, 15, 10, 10], [10, 12, 15]), ([16, 10], [10, 16]), ([10, 17], [10, 17]), ([18, 16], [18]), ([19], [19]), ([20, 19, 19], [19, 20]), ([21, 19], [19, 21]), ([19, 22], [19, 22]), ([23, 21], [23]), ([24], [24]), ([25, 24], [24, 25]), ([24], [24]), ([27, 24], [24, 27]), ([28, 24], [24, 28]), ([24], [24]), ([30, 24, 24], [24, 30]), ([26, 29, 31, 31, 24], [24, 26, 29, 31]), ([32, 24], [24, 32]), ([24, 33], [24, 33])])
def rialtoref08_Check.B1 : List Nat := [0, 1, 3, 7, 15, 31, 63, 127, 255, 511, 1023, 2047, 4095, 2047, 10239, 26623, 65535, 131071, 262143, 524287, 1048575, 2097151, 4194303, 8388607, 16777215, 33554431, 67108863, 33554431, 167772159, 436207615, 33554431, 1107296255, 4294967295, 8589934591, 17179869183]
theorem rialtoref08_Check.tab1 : rtab .any (opsOf Try.f31 1) = rialtoref08_Check.T1 := by kernel_rfl
theorem rialtoref08_Check.bits1 : waitsOk rialtoref08_Check.T1.2 rialtoref08_Check.B1 = true := by kernel_rfl
set_option maxHeartbeats 8000000 in
set_option maxRecDepth 100000 in
theorem rialtoref08_Check.calls (k : Nat) (a0_0 : Int) (a0_1 : Int) (A0_2 : Option Addr) (c0_2 : Nat) (l0_2 : List (S33)) (a0_3 : Int) (r : Int) (w : World) (hr0_2 : Kd.C k33 w A0_2 l0_2.length l0_2) (hc0_2 : l0_2.length ≤ c0_2) (h : rialtoref08_Check.f k a0_0 a0_1 l0_2 a0_3 = some r) :
    Calls Try.prog 31 #[.agg #[.int .i64 a0_0, .int .i64 a0_1, .slice A0_2 l0_2.length c0_2, .int .i64 a0_3]] w fun e w' => e = .returned (.int .i64 r) ∧ Below w.heap.size w w' := by
  have hu26 := Try.underlying26
  have hu23 := Try.underlying23
  have HR0_2 := Aside0.mk hr0_2
  have HC0_2 := Aside0.mk hc0_2
  clear hr0_2 hc0_2
  have HB := Aside0.mk (Below.refl w.heap.size w)
  have H : ((rialtoref07_Mark.f a0_0 a0_1).bind fun t329 => (if t329 = true then (if (l0_2.length : Int) > 400 then (some 80) else ((rialtoref08_Rows.f k l0_2 a0_1).bind fun t330 => (if t330 = true then ((rialtoref08_end.f a0_0 a0_1 l0_2 a0_3).bind fun t331 => (if t331 > 1000000 then (some 80) else ((rialtoref08_end.f a0_0 a0_1 l0_2 a0_3).bind fun t332 => ((rialtoref08_within.f a0_3 a0_0 t332).bind fun t333 => (if t333 = true then (some 0) else (some 80)))))) else (some 80)))) else (some 80))) = some r := h
  clear h
  replace H := Option.bind_eq_some_iff.mp H
  obtain ⟨t329, A20, H⟩ := H
  replace H : (if t329 = true then (if (l0_2.length : Int) > 400 then (some 80) else ((rialtoref08_Rows.f k l0_2 a0_1).bind fun t330 => (if t330 = true then ((rialtoref08_end.f a0_0 a0_1 l0_2 a0_3).bind fun t331 => (if t331 > 1000000 then (some 80) else ((rialtoref08_end.f a0_0 a0_1 l0_2 a0_3).bind fun t332 => ((rialtoref08_within.f a0_3 a0_0 t332).bind fun t333 => (if t333 = true then (some 0) else (some 80)))))) else (some 80)))) else (some 80)) = some r := H
  have A2 := Aside0.mk A20
  clear A20
  by_cases c3 : t329 = true
  focus
    subst c3
    have H1 : (if (l0_2.length : Int) > 400 then (some 80) else ((rialtoref08_Rows.f k l0_2 a0_1).bind fun t330 => (if t330 = true then ((rialtoref08_end.f a0_0 a0_1 l0_2 a0_3).bind fun t331 => (if t331 > 1000000 then (some 80) else ((rialtoref08_end.f a0_0 a0_1 l0_2 a0_3).bind fun t332 => ((rialtoref08_within.f a0_3 a0_0 t332).bind fun t333 => (if t333 = true then (some 0) else (some 80)))))) else (some 80)))) = some r := by rw [if_pos rfl] at H; exact H
    clear H
    have H := H1
    clear H1
    by_cases c4 : (l0_2.length : Int) > 400
    focus
      rw [if_pos c4] at H
      have c4b0 : decide (400 < (l0_2.length : Int)) = true := decide_eq_true c4
      have c4b1 : decide (400 < l0_2.length) = true := decide_eq_true (by omega)
      clear c4
      obtain rfl := Option.some.inj H
    rotate_left 1
    focus
      rw [if_neg c4] at H
      have c4b0 : decide (400 < (l0_2.length : Int)) = false := decide_eq_false c4
      have c4b1 : decide (400 < l0_2.length) = false := decide_eq_false (by omega)
      clear c4
      replace H := Option.bind_eq_some_iff.mp H
      obtain ⟨t330, A80, H⟩ := H
      replace H : (if t330 = true then ((rialtoref08_end.f a0_0 a0_1 l0_2 a0_3).bind fun t331 => (if t331 > 1000000 then (some 80) else ((rialtoref08_end.f a0_0 a0_1 l0_2 a0_3).bind fun t332 => ((rialtoref08_within.f a0_3 a0_0 t332).bind fun t333 => (if t333 = true then (some 0) else (some 80)))))) else (some 80)) = some r := H
      have A8 := Aside0.mk A80
      clear A80
      by_cases c9 : t330 = true
      focus
        subst c9
        have H1 : ((rialtoref08_end.f a0_0 a0_1 l0_2 a0_3).bind fun t331 => (if t331 > 1000000 then (some 80) else ((rialtoref08_end.f a0_0 a0_1 l0_2 a0_3).bind fun t332 => ((rialtoref08_within.f a0_3 a0_0 t332).bind fun t333 => (if t333 = true then (some 0) else (some 80)))))) = some r := by rw [if_pos rfl] at H; exact H
        clear H
        have H := H1
        clear H1
        replace H := Option.bind_eq_some_iff.mp H
        obtain ⟨t331, A100, H⟩ := H
        replace H : (if t331 > 1000000 then (some 80) else ((rialtoref08_end.f a0_0 a0_1 l0_2 a0_3).bind fun t332 => ((rialtoref08_within.f a0_3 a0_0 t332).bind fun t333 => (if t333 = true then (some 0) else (some 80))))) = some r := H
        have A10 := Aside0.mk A100
        clear A100
        by_cases c11 : t331 > 1000000
        focus
          rw [if_pos c11] at H
          have c11b0 : decide (1000000 < t331) = true := decide_eq_true c11
          clear c11
          obtain rfl := Option.some.inj H
        rotate_left 1
        focus
          rw [if_neg c11] at H
          have c11b0 : decide (1000000 < t331) = false := decide_eq_false c11
          clear c11
          replace H := Option.bind_eq_some_iff.mp H
          obtain ⟨t332, A170, H⟩ := H
          replace H : ((rialtoref08_within.f a0_3 a0_0 t332).bind fun t333 => (if t333 = true then (some 0) else (some 80))) = some r := H
          have A17 := Aside0.mk A170
          clear A170
          replace H := Option.bind_eq_some_iff.mp H
          obtain ⟨t333, A180, H⟩ := H
          replace H : (if t333 = true then (some 0) else (some 80)) = some r := H
          have A18 := Aside0.mk A180
          clear A180
          by_cases c19 : t333 = true
          focus
            subst c19
            have H1 : (some 0) = some r := by rw [if_pos rfl] at H; exact H
            clear H
            have H := H1
            clear H1
            obtain rfl := Option.some.inj H
          rotate_left 1
          focus
            replace c19 := Bool.eq_false_iff.mpr c19
            subst c19
            have H1 : (some 80) = some r := by rw [if_neg (show ¬ (false = true) by decide)] at H; exact H
            clear H
            have H := H1
            clear H1
            obtain rfl := Option.some.inj H
          rotate_left 1
        rotate_left 2
      rotate_left 3
      focus
        replace c9 := Bool.eq_false_iff.mpr c9
        subst c9
        have H1 : (some 80) = some r := by rw [if_neg (show ¬ (false = true) by decide)] at H; exact H
        clear H
        have H := H1
        clear H1
        obtain rfl := Option.some.inj H
      rotate_left 1
    rotate_left 4
  rotate_left 5
  focus
    replace c3 := Bool.eq_false_iff.mpr c3
    subst c3
    have H1 : (some 80) = some r := by rw [if_neg (show ¬ (false = true) by decide)] at H; exact H
    clear H
    have H := H1
    clear H1
    obtain rfl := Option.some.inj H
  rotate_left 1
  all_goals
    go_enter Try.func31, Try.ntmps31
    try go_wp2_with (first | ((with_reducible refine gate_dst (N := 1) rfl ?_); (try (refine gate_guard (by rfl) ?_; dsimp only)); refine box_event ?hg (N := 1) ?hd (cs := #[.int .i64 a0_0, .int .i64 a0_1, .slice A0_2 l0_2.length c0_2, .int .i64 a0_3]) (t := 26) ?hr ?_; (case hd => rfl); (case hg => rfl); (case hr => first | (go_simp; done) | (go_simp; rfl)); intro gb328 hg wx1i0 hbox hb; have n0_ := Aside0.mk (below_step (by repeat (first | (with_reducible first | exact HB.out | apply below_alloc | apply pw_below_drewN | apply below_drew1) | exact HB.out)) hb); have n1_ := Aside0.mk (hbox); have n2_ := Aside0.mk ((by rw [hg]; exact (below_size (by repeat (first | (with_reducible first | exact HB.out | apply below_alloc | apply pw_below_drewN | apply below_drew1) | exact HB.out))) : w.heap.size ≤ gb328)); have n3_ := Aside0.mk ((by rw [hg]; exact (below_size (by repeat (first | (with_reducible first | exact HB.out | apply below_alloc | apply pw_below_drewN | apply below_drew1) | exact HB.out))) : w.heap.size ≤ gb328)); clear HB; have HB := n0_; have BK328 := n1_; have GW328 := n2_; have GE328 := n3_; clear n0_ n1_ n2_ n3_; clear hb hbox hg))
    have n0_ := Aside0.mk (blk_drew BK328.out)
    have n1_ := Aside0.mk (below_drew1 HB.out)
    clear BK328
    clear HB
    have BK328 := n0_
    have HB := n1_
    clear n0_ n1_
    refine start_ (n := 35) (S := fun w' => w'.cell? ⟨gb328, 0, none⟩ = some (.int .i64 a0_0) ∧ w'.cell? ⟨gb328, 1, none⟩ = some (.int .i64 a0_1) ∧ w'.cell? ⟨gb328, 2, none⟩ = some (.slice A0_2 l0_2.length c0_2) ∧ w'.cell? ⟨gb328, 3, none⟩ = some (.int .i64 a0_3)) (ds := []) #[false, false, false, false, false, false, false, false, false, false, false, false, false, false, false, false, false, false, false, false, false, false, false, false, false, false, false, false, false, false, false, false, false, false, false] (by kernel_rfl) rfl rfl ⟨(blk_cell BK328.out 0).trans rfl, (blk_cell BK328.out 1).trans rfl, (blk_cell BK328.out 2).trans rfl, (blk_cell BK328.out 3).trans rfl⟩ (fun hHeld => ?_); refine with_tabW rialtoref08_Check.tab1 rialtoref08_Check.bits1 (fun HT_ HW_ => ?_)
    generalize wx1i0.drew = wyi0 at BK328 HB hHeld ⊢
    refine stepP HT_ 0 (some 3) ?_
    refine stepT4 HT_ HW_ 1 (some 4) hHeld ?_
    refine one_ (i := 2) (N := some 5) #[true, true, true, false, false, false, false, false, false, false, false, false, false, false, false, false, false, false, false, false, false, false, false, false, false, false, false, false, false, false, false, false, false, false, false] rfl rfl (one_of HT_.out (by kernel_rfl)) (by decide) (fun K hK => ?_)
    refine goes_ Try.func40 (by kernel_rfl) rfl #[.agg #[.int .i64 a0_0, .int .i64 a0_1]] (by rfl) rfl rfl (by (try simp only [List.map_toArray, List.map_cons, List.map_nil]); first | done | rfl | (simp only [List.length_drop, List.length_take]; rfl)) ?_
    with_reducible refine (rialtoref07_Mark.calls a0_0 a0_1 _ _ A2.out).mono ?_
    rintro e wyi1 ⟨rfl, hb⟩
    refine ⟨_, rfl, ?_⟩
    have n0_ := Aside0.mk (blk_below (g := gb328) (o := .cells #[.int .i64 a0_0, .int .i64 a0_1, .slice A0_2 l0_2.length c0_2, .int .i64 a0_3] 26 (0, 0)) (by (with_reducible repeat (first | refine blk_drewN ?_ _ | refine blk_drew ?_ | refine blk_alloc ?_ _)); exact BK328.out) hb)
    have n1_ := Aside0.mk (below_step (by repeat (first | (with_reducible first | exact HB.out | apply below_alloc | apply pw_below_drewN | apply below_drew1 | refine below_set ?_ GE328.out) | exact HB.out)) hb)
    clear BK328
    clear HB
    have BK328 := n0_
    have HB := n1_
    clear n0_ n1_
    (try clear hb)
    (try clear hb2)
    (try clear hk)
    (try clear hi)
    refine hK.out _ _ ⟨(blk_cell BK328.out 0).trans rfl, (blk_cell BK328.out 1).trans rfl, (blk_cell BK328.out 2).trans rfl, (blk_cell BK328.out 3).trans rfl⟩ (fun hHeld => ?_)
    clear hK K
    refine norm_ (a' := ?_) ?_ ?_
    rotate_left
    · show Act.put _ (some 5) _ = _
      simp only [Act.put, List.setIfInBounds_toArray, List.set_cons_zero, List.set_cons_succ, i64_w, i32_w]
      rfl
    refine stepP HT_ 3 (some 6) ?_
    refine stepP HT_ 4 (some 7) ?_
  iterate 5
    focus
      refine stepP HT_ 5 (some 8) ?_
      refine stepT4 HT_ HW_ 6 (some 9) hHeld ?_
      refine stepP HT_ 7 (some 10) ?_
      refine stepP HT_ 8 (some 11) ?_
      refine stepP HT_ 9 (some 12) ?_
      refine stepP HT_ 10 (some 13) ?_
    rotate_left
  focus
    refine stepU HT_ 5 (some 8) ?_
    refine stepU HT_ 6 (some 9) ?_
    refine stepU HT_ 7 (some 10) ?_
    refine stepU HT_ 8 (some 11) ?_
    refine stepP HT_ 9 (some 12) ?_
    refine stepP HT_ 10 (some 13) ?_
    refine stepU HT_ 11 (some 14) ?_
    refine stepU HT_ 12 (some 15) ?_
    refine stepU HT_ 13 (some 16) ?_
    refine stepU HT_ 14 (some 17) ?_
    refine stepU HT_ 15 (some 18) ?_
    refine stepU HT_ 16 (some 19) ?_
    refine stepU HT_ 17 (some 20) ?_
    refine stepP HT_ 18 (some 21) ?_
    refine stepP HT_ 19 (some 22) ?_
    refine stepU HT_ 20 (some 23) ?_
    refine stepU HT_ 21 (some 24) ?_
    refine stepU HT_ 22 (some 25) ?_
    refine stepP HT_ 23 (some 26) ?_
    refine stepP HT_ 24 (some 27) ?_
    refine stepU HT_ 25 (some 28) ?_
    refine stepU HT_ 26 (some 29) ?_
    refine stepU HT_ 27 (some 30) ?_
    refine stepU HT_ 28 (some 31) ?_
    refine stepU HT_ 29 (some 32) ?_
    refine stepU HT_ 30 (some 33) ?_
    refine stepU HT_ 31 (some 34) ?_
    refine stepU HT_ 32 (some 35) ?_
    refine stepU HT_ 33 (some 36) ?_
    refine stepP HT_ 34 (some 37) ?_
    refine done_ (done_of HT_.out (by kernel_rfl)) ?_
    try go_wp2
    go_ret
    exact ⟨by first | rfl | (simp [errW_none, errW_some] <;> rfl) | (simp [*, errW_none, errW_some] <;> rfl), by repeat (first | (with_reducible first | exact HB.out | apply below_alloc | apply pw_below_drewN | apply below_drew1 | refine below_set ?_ GE328.out) | exact HB.out)⟩
  focus
    refine stepU HT_ 11 (some 14) ?_
    refine stepU HT_ 12 (some 15) ?_
    refine stepU HT_ 13 (some 16) ?_
    refine stepU HT_ 14 (some 17) ?_
    refine stepU HT_ 15 (some 18) ?_
    refine stepU HT_ 16 (some 19) ?_
    refine stepU HT_ 17 (some 20) ?_
    refine stepP HT_ 18 (some 21) ?_
    refine stepP HT_ 19 (some 22) ?_
    refine stepU HT_ 20 (some 23) ?_
    refine stepU HT_ 21 (some 24) ?_
    refine stepU HT_ 22 (some 25) ?_
    refine stepP HT_ 23 (some 26) ?_
    refine stepP HT_ 24 (some 27) ?_
    refine stepU HT_ 25 (some 28) ?_
    refine stepU HT_ 26 (some 29) ?_
    refine stepU HT_ 27 (some 30) ?_
    refine stepU HT_ 28 (some 31) ?_
    refine stepU HT_ 29 (some 32) ?_
    refine stepU HT_ 30 (some 33) ?_
    refine stepU HT_ 31 (some 34) ?_
    refine stepU HT_ 32 (some 35) ?_
    refine stepU HT_ 33 (some 36) ?_
    refine stepP HT_ 34 (some 37) ?_
    refine done_ (done_of HT_.out (by kernel_rfl)) ?_
    try go_wp2
    go_ret
    exact ⟨by first | rfl | (simp [errW_none, errW_some] <;> rfl) | (simp [*, errW_none, errW_some] <;> rfl), by repeat (first | (with_reducible first | exact HB.out | apply below_alloc | apply pw_below_drewN | apply below_drew1 | refine below_set ?_ GE328.out) | exact HB.out)⟩
  iterate 4
    focus
      refine stepP HT_ 11 (some 14) ?_
      refine stepP HT_ 13 (some 16) ?_
      refine stepP HT_ 14 (some 17) ?_
      refine stepT4 HT_ HW_ 12 (some 15) hHeld ?_
      refine stepT4 HT_ HW_ 15 (some 18) hHeld ?_
      refine one_ (i := 16) (N := some 19) #[true, true, true, true, true, true, true, true, true, true, true, true, true, true, true, true, true, false, false, false, false, false, false, false, false, false, false, false, false, false, false, false, false, false, false] rfl rfl (one_of HT_.out (by kernel_rfl)) (by decide) (fun K hK => ?_)
      refine goes_ Try.func46 (by kernel_rfl) rfl #[.slice A0_2 l0_2.length c0_2, .int .i64 a0_1] (by rfl) rfl rfl (by (try simp only [List.map_toArray, List.map_cons, List.map_nil]); first | done | rfl | (simp only [List.length_drop, List.length_take]; rfl)) ?_
      with_reducible refine (rialtoref08_Rows.calls k _ _ l0_2 a0_1 _ _ ?side1 ?side2 A8.out).mono ?_
      (case side1 => repeat (first | exact (Kd.C_below HR0_2.out HB.out) | (with_reducible refine Kd.C_alloc ?_ _) | (with_reducible refine Kd.C_drewN ?_ _) | (with_reducible refine Kd.C_drew ?_)))
      (case side2 => exact HC0_2.out)
      rintro e wyi2 ⟨rfl, hb⟩
      refine ⟨_, rfl, ?_⟩
      have n0_ := Aside0.mk (blk_below (g := gb328) (o := .cells #[.int .i64 a0_0, .int .i64 a0_1, .slice A0_2 l0_2.length c0_2, .int .i64 a0_3] 26 (0, 0)) (by (with_reducible repeat (first | refine blk_drewN ?_ _ | refine blk_drew ?_ | refine blk_alloc ?_ _)); exact BK328.out) hb)
      have n1_ := Aside0.mk (below_step (by repeat (first | (with_reducible first | exact HB.out | apply below_alloc | apply pw_below_drewN | apply below_drew1 | refine below_set ?_ GE328.out) | exact HB.out)) hb)
      clear BK328
      clear HB
      have BK328 := n0_
      have HB := n1_
      clear n0_ n1_
      (try clear hb)
      (try clear hb2)
      (try clear hk)
      (try clear hi)
      refine hK.out _ _ ⟨(blk_cell BK328.out 0).trans rfl, (blk_cell BK328.out 1).trans rfl, (blk_cell BK328.out 2).trans rfl, (blk_cell BK328.out 3).trans rfl⟩ (fun hHeld => ?_)
      clear hK K
      refine norm_ (a' := ?_) ?_ ?_
      rotate_left
      · show Act.put _ (some 19) _ = _
        simp only [Act.put, List.setIfInBounds_toArray, List.set_cons_zero, List.set_cons_succ, i64_w, i32_w]
        rfl
      refine stepP HT_ 17 (some 20) ?_
      refine stepP HT_ 18 (some 21) ?_
      refine stepP HT_ 19 (some 22) ?_
    rotate_left
  iterate 3
    focus
      refine stepT4 HT_ HW_ 20 (some 23) hHeld ?_
      refine one_ (i := 21) (N := some 24) #[true, true, true, true, true, true, true, true, true, true, true, true, true, true, true, true, true, true, true, true, true, true, false, false, false, false, false, false, false, false, false, false, false, false, false] rfl rfl (one_of HT_.out (by kernel_rfl)) (by decide) (fun K hK => ?_)
      refine goes_ Try.func47 (by kernel_rfl) rfl #[.agg #[.int .i64 a0_0, .int .i64 a0_1, .slice A0_2 l0_2.length c0_2, .int .i64 a0_3]] (by rfl) rfl rfl (by (try simp only [List.map_toArray, List.map_cons, List.map_nil]); first | done | rfl | (simp only [List.length_drop, List.length_take]; rfl)) ?_
      with_reducible refine (rialtoref08_end.calls a0_0 a0_1 _ _ l0_2 a0_3 t331 _ ?side1 ?side2 A10.out).mono ?_
      (case side1 => repeat (first | exact (Kd.C_below HR0_2.out HB.out) | (with_reducible refine Kd.C_alloc ?_ _) | (with_reducible refine Kd.C_drewN ?_ _) | (with_reducible refine Kd.C_drew ?_)))
      (case side2 => exact HC0_2.out)
      rintro e wyi3 ⟨rfl, hb⟩
      refine ⟨_, rfl, ?_⟩
      have n0_ := Aside0.mk (blk_below (g := gb328) (o := .cells #[.int .i64 a0_0, .int .i64 a0_1, .slice A0_2 l0_2.length c0_2, .int .i64 a0_3] 26 (0, 0)) (by (with_reducible repeat (first | refine blk_drewN ?_ _ | refine blk_drew ?_ | refine blk_alloc ?_ _)); exact BK328.out) hb)
      have n1_ := Aside0.mk (below_step (by repeat (first | (with_reducible first | exact HB.out | apply below_alloc | apply pw_below_drewN | apply below_drew1 | refine below_set ?_ GE328.out) | exact HB.out)) hb)
      clear BK328
      clear HB
      have BK328 := n0_
      have HB := n1_
      clear n0_ n1_
      (try clear hb)
      (try clear hb2)
      (try clear hk)
      (try clear hi)
      refine hK.out _ _ ⟨(blk_cell BK328.out 0).trans rfl, (blk_cell BK328.out 1).trans rfl, (blk_cell BK328.out 2).trans rfl, (blk_cell BK328.out 3).trans rfl⟩ (fun hHeld => ?_)
      clear hK K
      refine norm_ (a' := ?_) ?_ ?_
      rotate_left
      · show Act.put _ (some 24) _ = _
        simp only [Act.put, List.setIfInBounds_toArray, List.set_cons_zero, List.set_cons_succ, i64_w, i32_w]
        rfl
      refine stepP HT_ 22 (some 25) ?_
      refine stepP HT_ 23 (some 26) ?_
      refine stepP HT_ 24 (some 27) ?_
    rotate_left
  focus
    refine stepU HT_ 20 (some 23) ?_
    refine stepU HT_ 21 (some 24) ?_
    refine stepU HT_ 22 (some 25) ?_
    refine stepP HT_ 23 (some 26) ?_
    refine stepP HT_ 24 (some 27) ?_
    refine stepU HT_ 25 (some 28) ?_
    refine stepU HT_ 26 (some 29) ?_
    refine stepU HT_ 27 (some 30) ?_
    refine stepU HT_ 28 (some 31) ?_
    refine stepU HT_ 29 (some 32) ?_
    refine stepU HT_ 30 (some 33) ?_
    refine stepU HT_ 31 (some 34) ?_
    refine stepU HT_ 32 (some 35) ?_
    refine stepU HT_ 33 (some 36) ?_
    refine stepP HT_ 34 (some 37) ?_
    refine done_ (done_of HT_.out (by kernel_rfl)) ?_
    try go_wp2
    go_ret
    exact ⟨by first | rfl | (simp [errW_none, errW_some] <;> rfl) | (simp [*, errW_none, errW_some] <;> rfl), by repeat (first | (with_reducible first | exact HB.out | apply below_alloc | apply pw_below_drewN | apply below_drew1 | refine below_set ?_ GE328.out) | exact HB.out)⟩
  focus
    refine stepU HT_ 25 (some 28) ?_
    refine stepU HT_ 26 (some 29) ?_
    refine stepU HT_ 27 (some 30) ?_
    refine stepU HT_ 28 (some 31) ?_
    refine stepU HT_ 29 (some 32) ?_
    refine stepU HT_ 30 (some 33) ?_
    refine stepU HT_ 31 (some 34) ?_
    refine stepU HT_ 32 (some 35) ?_
    refine stepU HT_ 33 (some 36) ?_
    refine stepP HT_ 34 (some 37) ?_
    refine done_ (done_of HT_.out (by kernel_rfl)) ?_
    try go_wp2
    go_ret
    exact ⟨by first | rfl | (simp [errW_none, errW_some] <;> rfl) | (simp [*, errW_none, errW_some] <;> rfl), by repeat (first | (with_reducible first | exact HB.out | apply below_alloc | apply pw_below_drewN | apply below_drew1 | refine below_set ?_ GE328.out) | exact HB.out)⟩
  iterate 2
    focus
      refine stepP HT_ 25 (some 28) ?_
      refine stepP HT_ 27 (some 30) ?_
      refine stepP HT_ 28 (some 31) ?_
      refine stepT4 HT_ HW_ 26 (some 29) hHeld ?_
      refine stepT4 HT_ HW_ 29 (some 32) hHeld ?_
      refine stepT4 HT_ HW_ 30 (some 33) hHeld ?_
      refine one_ (i := 31) (N := some 34) #[true, true, true, true, true, true, true, true, true, true, true, true, true, true, true, true, true, true, true, true, true, true, true, true, true, true, true, true, true, true, true, true, false, false, false] rfl rfl (one_of HT_.out (by kernel_rfl)) (by decide) (fun K hK => ?_)
      refine goes_ Try.func47 (by kernel_rfl) rfl #[.agg #[.int .i64 a0_0, .int .i64 a0_1, .slice A0_2 l0_2.length c0_2, .int .i64 a0_3]] (by rfl) rfl rfl (by (try simp only [List.map_toArray, List.map_cons, List.map_nil]); first | done | rfl | (simp only [List.length_drop, List.length_take]; rfl)) ?_
      with_reducible refine (rialtoref08_end.calls a0_0 a0_1 _ _ l0_2 a0_3 t332 _ ?side1 ?side2 A17.out).mono ?_
      (case side1 => repeat (first | exact (Kd.C_below HR0_2.out HB.out) | (with_reducible refine Kd.C_alloc ?_ _) | (with_reducible refine Kd.C_drewN ?_ _) | (with_reducible refine Kd.C_drew ?_)))
      (case side2 => exact HC0_2.out)
      rintro e wyi4 ⟨rfl, hb⟩
      refine ⟨_, rfl, ?_⟩
      have n0_ := Aside0.mk (blk_below (g := gb328) (o := .cells #[.int .i64 a0_0, .int .i64 a0_1, .slice A0_2 l0_2.length c0_2, .int .i64 a0_3] 26 (0, 0)) (by (with_reducible repeat (first | refine blk_drewN ?_ _ | refine blk_drew ?_ | refine blk_alloc ?_ _)); exact BK328.out) hb)
      have n1_ := Aside0.mk (below_step (by repeat (first | (with_reducible first | exact HB.out | apply below_alloc | apply pw_below_drewN | apply below_drew1 | refine below_set ?_ GE328.out) | exact HB.out)) hb)
      clear BK328
      clear HB
      have BK328 := n0_
      have HB := n1_
      clear n0_ n1_
      (try clear hb)
      (try clear hb2)
      (try clear hk)
      (try clear hi)
      refine hK.out _ _ ⟨(blk_cell BK328.out 0).trans rfl, (blk_cell BK328.out 1).trans rfl, (blk_cell BK328.out 2).trans rfl, (blk_cell BK328.out 3).trans rfl⟩ (fun hHeld => ?_)
      clear hK K
      refine norm_ (a' := ?_) ?_ ?_
      rotate_left
      · show Act.put _ (some 34) _ = _
        simp only [Act.put, List.setIfInBounds_toArray, List.set_cons_zero, List.set_cons_succ, i64_w, i32_w]
        rfl
      refine one_ (i := 32) (N := some 35) #[true, true, true, true, true, true, true, true, true, true, true, true, true, true, true, true, true, true, true, true, true, true, true, true, true, true, true, true, true, true, true, true, true, false, false] rfl rfl (one_of HT_.out (by kernel_rfl)) (by decide) (fun K hK => ?_)
      refine goes_ Try.func45 (by kernel_rfl) rfl #[.int .i64 a0_3, .int .i64 a0_0, .int .i64 t332] (by rfl) rfl rfl (by (try simp only [List.map_toArray, List.map_cons, List.map_nil]); first | done | rfl | (simp only [List.length_drop, List.length_take]; rfl)) ?_
      with_reducible refine (rialtoref08_within.calls a0_3 a0_0 t332 _ _ A18.out).mono ?_
      rintro e w' ⟨rfl, ⟨nd, rfl⟩⟩
      refine ⟨_, rfl, ?_⟩
      refine hK.out _ _ ⟨(blk_cell BK328.out 0).trans rfl, (blk_cell BK328.out 1).trans rfl, (blk_cell BK328.out 2).trans rfl, (blk_cell BK328.out 3).trans rfl⟩ (fun hHeld => ?_)
      clear hK K
      refine norm_ (a' := ?_) ?_ ?_
      rotate_left
      · show Act.put _ (some 35) _ = _
        simp only [Act.put, List.setIfInBounds_toArray, List.set_cons_zero, List.set_cons_succ, i64_w, i32_w]
        rfl
      refine stepP HT_ 33 (some 36) ?_
      refine stepP HT_ 34 (some 37) ?_
      refine done_ (done_of HT_.out (by kernel_rfl)) ?_
      try go_wp2
      go_ret
      exact ⟨by first | rfl | (simp [errW_none, errW_some] <;> rfl) | (simp [*, errW_none, errW_some] <;> rfl), by repeat (first | (with_reducible first | exact HB.out | apply below_alloc | apply pw_below_drewN | apply below_drew1 | refine below_set ?_ GE328.out) | exact HB.out)⟩

end Go.Proofs.Ytiebeiloooblpaa.E
end
section
-- written by myprint.py, a program of this session over the kit's print.py
namespace Go.Proofs.Ytiebeiloooblpaa.E
open Go.RowKit Go.Proofs.YtiebeiloooblpaaW.PrintWords Go.Proofs.YtiebeiloooblpaaW.PrintLast Go.Proofs.YtiebeiloooblpaaW.PrintMore
attribute [local go_sem] max2_int min2_int max_two min_two max_three min_three max_four min_four   -- for this text's walks alone
set_option linter.unusedVariables false
set_option linter.unusedSimpArgs false

/-! ### rialtoref08_TermAt: function 28 -/
def rialtoref08_TermAt.j0 : Nat → Int → Bool → Int → Int → List (S33) → Int → Option (Int × Bool)
  | 0, _, _, _, _, _, _ => none
  | k + 1, x1, x21, x335000, x335001, x335002, x335003 => if x21 = true then (some (0, false)) else (if x1 = x335000 then (some (x335001, true)) else (if 0 ≤ (wrap64 ((wrap64 (x1 - x335000)) - 1)) then (if (wrap64 ((wrap64 (x1 - x335000)) - 1)) < (x335002.length : Int) then (some ((rd_T33 x335002 (wrap64 ((wrap64 (x1 - x335000)) - 1))).f0, true)) else (none)) else (none)))
def rialtoref08_TermAt.f (k : Nat) (a0_0 : Int) (a0_1 : Int) (l0_2 : List (S33)) (a0_3 : Int) (a1 : Int) : Option (Int × Bool) := (rialtoref08_Check.f k a0_0 a0_1 l0_2 a0_3).bind fun t335 => (if t335 = 0 then (if a1 < a0_0 then (rialtoref08_TermAt.j0 k a1 true a0_0 a0_1 l0_2 a0_3) else ((rialtoref08_end.f a0_0 a0_1 l0_2 a0_3).bind fun t336 => (rialtoref08_TermAt.j0 k a1 (decide (a1 > t336)) a0_0 a0_1 l0_2 a0_3))) else (rialtoref08_TermAt.j0 k a1 true a0_0 a0_1 l0_2 a0_3))
set_option maxHeartbeats 8000000 in
set_option maxRecDepth 100000 in
theorem rialtoref08_TermAt.calls (k : Nat) (a0_0 : Int) (a0_1 : Int) (A0_2 : Option Addr) (c0_2 : Nat) (l0_2 : List (S33)) (a0_3 : Int) (a1 : Int) (r1 : Int) (r2 : Bool) (w : World) (hr0_2 : Kd.C k33 w A0_2 l0_2.length l0_2) (hc0_2 : l0_2.length ≤ c0_2) (h : rialtoref08_TermAt.f k a0_0 a0_1 l0_2 a0_3 a1 = some (r1, r2)) :
    Calls Try.prog 28 #[.agg #[.int .i64 a0_0, .int .i64 a0_1, .slice A0_2 l0_2.length c0_2, .int .i64 a0_3], .int .i64 a1] w fun e w' => e = .returned (.tuple #[.int .i64 r1, .bool r2]) ∧ Below w.heap.size w w' := by
  have hu26 := Try.underlying26
  have HR0_2 := Aside0.mk hr0_2
  have HC0_2 := Aside0.mk hc0_2
  clear hr0_2 hc0_2
  have HB := Aside0.mk (Below.refl w.heap.size w)
  have H : ((rialtoref08_Check.f k a0_0 a0_1 l0_2 a0_3).bind fun t335 => (if t335 = 0 then (if a1 < a0_0 then (rialtoref08_TermAt.j0 k a1 true a0_0 a0_1 l0_2 a0_3) else ((rialtoref08_end.f a0_0 a0_1 l0_2 a0_3).bind fun t336 => (rialtoref08_TermAt.j0 k a1 (decide (a1 > t336)) a0_0 a0_1 l0_2 a0_3))) else (rialtoref08_TermAt.j0 k a1 true a0_0 a0_1 l0_2 a0_3))) = some (r1, r2) := h
  clear h
  have HC3 := Aside0.mk H
  clear H
  go_enter Try.func28, Try.ntmps28
  go_upto_region 1 with (first | ((with_reducible refine gate_dst (N := 2) rfl ?_); refine box_event ?hg (N := 2) ?hd (cs := #[.int .i64 a0_0, .int .i64 a0_1, .slice A0_2 l0_2.length c0_2, .int .i64 a0_3]) (t := 26) ?hr ?_; (case hd => rfl); (case hg => rfl); (case hr => first | (go_simp; done) | (go_simp; rfl)); intro gb334 hg w4 hbox hb; have n0_ := Aside0.mk (below_step (by repeat (first | (with_reducible first | exact HB.out | apply below_alloc | apply pw_below_drewN | apply below_drew1) | exact HB.out)) hb); have n1_ := Aside0.mk (hbox); have n2_ := Aside0.mk ((by rw [hg]; exact (below_size (by repeat (first | (with_reducible first | exact HB.out | apply below_alloc | apply pw_below_drewN | apply below_drew1) | exact HB.out))) : w.heap.size ≤ gb334)); have n3_ := Aside0.mk ((by rw [hg]; exact (below_size (by repeat (first | (with_reducible first | exact HB.out | apply below_alloc | apply pw_below_drewN | apply below_drew1) | exact HB.out))) : w.heap.size ≤ gb334)); clear HB; have HB := n0_; have BK334 := n1_; have GW334 := n2_; have GE334 := n3_; clear n0_ n1_ n2_ n3_; clear hb hbox hg))
  (try simp only [Act.put, List.setIfInBounds_toArray, List.set_cons_zero, List.set_cons_succ])
  go_cut [21] (fun v21 wc => ∃ (kq : Nat) (x21_2 : Bool), v21 = .bool x21_2 ∧ Aside0 (rialtoref08_TermAt.j0 kq a1 x21_2 a0_0 a0_1 l0_2 a0_3 = some (r1, r2)) ∧ Aside0 (kq ≤ k) ∧ Aside0 (wc.heap[gb334]? = some (.cells #[.int .i64 a0_0, .int .i64 a0_1, (.slice A0_2 l0_2.length c0_2), .int .i64 a0_3] 26 (0, 0))) ∧ Aside0 (Below w.heap.size w wc))
  case first =>
    have H := HC3.out
    clear HC3
    replace H := Option.bind_eq_some_iff.mp H
    obtain ⟨t335, A50, H⟩ := H
    replace H : (if t335 = 0 then (if a1 < a0_0 then (rialtoref08_TermAt.j0 k a1 true a0_0 a0_1 l0_2 a0_3) else ((rialtoref08_end.f a0_0 a0_1 l0_2 a0_3).bind fun t336 => (rialtoref08_TermAt.j0 k a1 (decide (a1 > t336)) a0_0 a0_1 l0_2 a0_3))) else (rialtoref08_TermAt.j0 k a1 true a0_0 a0_1 l0_2 a0_3)) = some (r1, r2) := H
    have A5 := Aside0.mk A50
    clear A50
    by_cases c6 : t335 = 0
    focus
      rw [if_pos c6] at H
      have c6b0 : (t335 == 0) = true := beq_iff_eq.mpr c6
      have c6b1 : (t335 != 0) = false := bne_eq_false_iff_eq.mpr c6
      clear c6
      (first | rw [c6b0] | (simp only [i64_w, i32_w]; rw [c6b0]) | skip)
      by_cases c7 : a1 < a0_0
      focus
        rw [if_pos c7] at H
        have c7b0 : decide (a1 < a0_0) = true := decide_eq_true c7
        clear c7
        have H' := Aside0.mk H
        clear H
      rotate_left 1
      focus
        rw [if_neg c7] at H
        have c7b0 : decide (a1 < a0_0) = false := decide_eq_false c7
        clear c7
        replace H := Option.bind_eq_some_iff.mp H
        obtain ⟨t336, A110, H⟩ := H
        replace H : (rialtoref08_TermAt.j0 k a1 (decide (a1 > t336)) a0_0 a0_1 l0_2 a0_3) = some (r1, r2) := H
        have A11 := Aside0.mk A110
        clear A110
        have H' := Aside0.mk H
        clear H
      rotate_left 1
    rotate_left 2
    focus
      rw [if_neg c6] at H
      have c6b0 : (t335 == 0) = false := beq_eq_false_iff_ne.mpr c6
      have c6b1 : (t335 != 0) = true := bne_iff_ne.mpr c6
      (first | rw [c6b0] | (simp only [i64_w, i32_w]; rw [c6b0]) | skip)
      have H' := Aside0.mk H
      clear H
    rotate_left 1
    all_goals
      have hczyb334_0 : w4.cell? ⟨gb334, 0, none⟩ = some (.int .i64 a0_0) := (blk_cell BK334.out 0).trans rfl
      have hczyb334_1 : w4.cell? ⟨gb334, 1, none⟩ = some (.int .i64 a0_1) := (blk_cell BK334.out 1).trans rfl
      have hczyb334_2 : w4.cell? ⟨gb334, 2, none⟩ = some (.slice A0_2 l0_2.length c0_2) := (blk_cell BK334.out 2).trans rfl
      have hczyb334_3 : w4.cell? ⟨gb334, 3, none⟩ = some (.int .i64 a0_3) := (blk_cell BK334.out 3).trans rfl
      have hfzyb334_0 := blk_frozen BK334.out 0
      have hfzyb334_1 := blk_frozen BK334.out 1
      have hfzyb334_2 := blk_frozen BK334.out 2
      have hfzyb334_3 := blk_frozen BK334.out 3
      go_wp2_with (first | ((with_reducible refine gate_callee (f := 31) rfl ?_); refine goesL_ (some 7) rfl rfl Try.func31 (by kernel_rfl) rfl #[.agg #[.int .i64 a0_0, .int .i64 a0_1, .slice A0_2 l0_2.length c0_2, .int .i64 a0_3]] rfl (by (try simp only [List.map_toArray, List.map_cons, List.map_nil]); first | done | rfl | (simp only [List.length_drop, List.length_take]; rfl)) ?_; (with_reducible refine (rialtoref08_Check.calls k a0_0 a0_1 _ _ l0_2 a0_3 t335 _ ?side1 ?side2 A5.out).mono ?_); (case side1 => repeat (first | exact (Kd.C_below HR0_2.out HB.out) | (with_reducible refine Kd.C_alloc ?_ _) | (with_reducible refine Kd.C_drewN ?_ _) | (with_reducible refine Kd.C_drew ?_))); (case side2 => exact HC0_2.out); rintro e wx7i0 ⟨rfl, hb⟩; refine ⟨_, rfl, ?_⟩; have n0_ := Aside0.mk (blk_below (g := gb334) (o := .cells #[.int .i64 a0_0, .int .i64 a0_1, .slice A0_2 l0_2.length c0_2, .int .i64 a0_3] 26 (0, 0)) (by (with_reducible repeat (first | refine blk_drewN ?_ _ | refine blk_drew ?_ | refine blk_alloc ?_ _)); exact BK334.out) hb); have n1_ := Aside0.mk (below_step (by repeat (first | (with_reducible first | exact HB.out | apply below_alloc | apply pw_below_drewN | apply below_drew1 | refine below_set ?_ GE334.out) | exact HB.out)) hb); clear BK334; clear HB; have BK334 := n0_; have HB := n1_; clear n0_ n1_; (try clear hb); (try clear hb2); (try clear hk); (try clear hi); (try have hczx7b334_0 : wx7i0.cell? ⟨gb334, 0, none⟩ = some (.int .i64 a0_0) := (blk_cell BK334.out 0).trans rfl); (try have hczx7b334_1 : wx7i0.cell? ⟨gb334, 1, none⟩ = some (.int .i64 a0_1) := (blk_cell BK334.out 1).trans rfl); (try have hczx7b334_2 : wx7i0.cell? ⟨gb334, 2, none⟩ = some (.slice A0_2 l0_2.length c0_2) := (blk_cell BK334.out 2).trans rfl); (try have hczx7b334_3 : wx7i0.cell? ⟨gb334, 3, none⟩ = some (.int .i64 a0_3) := (blk_cell BK334.out 3).trans rfl); (try have hfzx7b334_0 := blk_frozen BK334.out 0); (try have hfzx7b334_1 := blk_frozen BK334.out 1); (try have hfzx7b334_2 := blk_frozen BK334.out 2); (try have hfzx7b334_3 := blk_frozen BK334.out 3)) | (go_at_call 47; (with_reducible refine (rialtoref08_end.calls a0_0 a0_1 _ _ l0_2 a0_3 t336 _ ?side1 ?side2 A11.out).mono ?_); (case side1 => repeat (first | exact (Kd.C_below HR0_2.out HB.out) | (with_reducible refine Kd.C_alloc ?_ _) | (with_reducible refine Kd.C_drewN ?_ _) | (with_reducible refine Kd.C_drew ?_))); (case side2 => exact HC0_2.out); rintro e wyi0 ⟨rfl, hb⟩; have n0_ := Aside0.mk (blk_below (g := gb334) (o := .cells #[.int .i64 a0_0, .int .i64 a0_1, .slice A0_2 l0_2.length c0_2, .int .i64 a0_3] 26 (0, 0)) (by (with_reducible repeat (first | refine blk_drewN ?_ _ | refine blk_drew ?_ | refine blk_alloc ?_ _)); exact BK334.out) hb); have n1_ := Aside0.mk (below_step (by repeat (first | (with_reducible first | exact HB.out | apply below_alloc | apply pw_below_drewN | apply below_drew1 | refine below_set ?_ GE334.out) | exact HB.out)) hb); clear BK334; clear HB; have BK334 := n0_; have HB := n1_; clear n0_ n1_; (try clear hb); (try clear hb2); (try clear hk); (try clear hi)))
      go_meet
      case rel => (first | exact ⟨_, (true), (by first | rfl | (simp; done) | (simp [*]; done)), H', ⟨by first | omega | exact Nat.le_refl _⟩, ⟨by (with_reducible repeat (first | refine blk_drewN ?_ _ | refine blk_drew ?_ | refine blk_alloc ?_ _)); exact BK334.out⟩, ⟨by repeat (first | (with_reducible first | exact HB.out | apply below_alloc | apply pw_below_drewN | apply below_drew1 | refine below_set ?_ GE334.out) | exact HB.out)⟩⟩ | exact ⟨_, (decide (a1 > t336)), (by first | rfl | (simp; done) | (simp [*]; done)), H', ⟨by first | omega | exact Nat.le_refl _⟩, ⟨by (with_reducible repeat (first | refine blk_drewN ?_ _ | refine blk_drew ?_ | refine blk_alloc ?_ _)); exact BK334.out⟩, ⟨by repeat (first | (with_reducible first | exact HB.out | apply below_alloc | apply pw_below_drewN | apply below_drew1 | refine below_set ?_ GE334.out) | exact HB.out)⟩⟩)
  case rest =>
    clear HC3
    obtain ⟨kq, x21_2, rfl, HA, HJ2, BK334, HB⟩ := hcut
    cases kq with
    | zero => exact absurd HA.out (by simp [rialtoref08_TermAt.j0])
    | succ kj2 =>
      have H := HA.out
      clear HA
      simp only [rialtoref08_TermAt.j0] at H
      by_cases c18 : x21_2 = true
      · subst c18
        have H1 : (some (0, false)) = some (r1, r2) := by rw [if_pos rfl] at H; exact H
        clear H
        have H := H1
        clear H1
        simp only [Option.some.injEq, Prod.mk.injEq] at H
        obtain ⟨rfl, rfl⟩ := H
        go_wp2
        go_ret2
        exact ⟨by first | rfl | (simp [errW_none, errW_some] <;> rfl) | (simp [*, errW_none, errW_some] <;> rfl), by repeat (first | (with_reducible first | exact HB.out | apply below_alloc | apply pw_below_drewN | apply below_drew1 | refine below_set ?_ GE334.out) | exact HB.out)⟩
      · replace c18 := Bool.eq_false_iff.mpr c18
        subst c18
        have H1 : (if a1 = a0_0 then (some (a0_1, true)) else (if 0 ≤ (wrap64 ((wrap64 (a1 - a0_0)) - 1)) then (if (wrap64 ((wrap64 (a1 - a0_0)) - 1)) < (l0_2.length : Int) then (some ((rd_T33 l0_2 (wrap64 ((wrap64 (a1 - a0_0)) - 1))).f0, true)) else (none)) else (none))) = some (r1, r2) := by rw [if_neg (show ¬ (false = true) by decide)] at H; exact H
        clear H
        have H := H1
        clear H1
        by_cases c19 : a1 = a0_0
        · rw [if_pos c19] at H
          have c19b0 : (a1 == a0_0) = true := beq_iff_eq.mpr c19
          have c19b1 : (a1 != a0_0) = false := bne_eq_false_iff_eq.mpr c19
          clear c19
          simp only [Option.some.injEq, Prod.mk.injEq] at H
          obtain ⟨rfl, rfl⟩ := H
          have hcz20_0 : wc.cell? ⟨gb334, 0, none⟩ = some (.int .i64 a0_0) := (blk_cell BK334.out 0).trans rfl
          have hcz20_1 : wc.cell? ⟨gb334, 1, none⟩ = some (.int .i64 a0_1) := (blk_cell BK334.out 1).trans rfl
          have hcz20_2 : wc.cell? ⟨gb334, 2, none⟩ = some (.slice A0_2 l0_2.length c0_2) := (blk_cell BK334.out 2).trans rfl
          have hcz20_3 : wc.cell? ⟨gb334, 3, none⟩ = some (.int .i64 a0_3) := (blk_cell BK334.out 3).trans rfl
          have hfz20_0 := blk_frozen BK334.out 0
          have hfz20_1 := blk_frozen BK334.out 1
          have hfz20_2 := blk_frozen BK334.out 2
          have hfz20_3 := blk_frozen BK334.out 3
          go_wp2
          go_ret2
          exact ⟨by first | rfl | (simp [errW_none, errW_some] <;> rfl) | (simp [*, errW_none, errW_some] <;> rfl), by repeat (first | (with_reducible first | exact HB.out | apply below_alloc | apply pw_below_drewN | apply below_drew1 | refine below_set ?_ GE334.out) | exact HB.out)⟩
        · rw [if_neg c19] at H
          have c19b0 : (a1 == a0_0) = false := beq_eq_false_iff_ne.mpr c19
          have c19b1 : (a1 != a0_0) = true := bne_iff_ne.mpr c19
          obtain ⟨ji21, hji21⟩ : ∃ j_ : Int, (wrap64 ((wrap64 (a1 - a0_0)) - 1)) = j_ := ⟨_, rfl⟩
          replace H : (if 0 ≤ (ji21) then (if (ji21) < (l0_2.length : Int) then (some ((rd_T33 l0_2 (ji21)).f0, true)) else (none)) else (none)) = some (r1, r2) := by first | (rw [hji21] at H; exact H) | (simp only [hji21] at H ⊢; exact H)
          have hji21w : (IntKind.i64.wrap ((wrap64 (a1 - a0_0)) - 1)) = ji21 := (i64_w _).trans hji21
          by_cases c22 : 0 ≤ (ji21)
          · rw [if_pos c22] at H
            have c22b0 : decide (0 ≤ (ji21)) = true := decide_eq_true c22
            clear c22
            by_cases c23 : (ji21) < (l0_2.length : Int)
            · rw [if_pos c23] at H
              have c23b0 : decide ((ji21) < (l0_2.length : Int)) = true := decide_eq_true c23
              clear c23
              simp only [Option.some.injEq, Prod.mk.injEq] at H
              obtain ⟨rfl, rfl⟩ := H
              have hcz24_0 : wc.cell? ⟨gb334, 0, none⟩ = some (.int .i64 a0_0) := (blk_cell BK334.out 0).trans rfl
              have hcz24_1 : wc.cell? ⟨gb334, 1, none⟩ = some (.int .i64 a0_1) := (blk_cell BK334.out 1).trans rfl
              have hcz24_2 : wc.cell? ⟨gb334, 2, none⟩ = some (.slice A0_2 l0_2.length c0_2) := (blk_cell BK334.out 2).trans rfl
              have hcz24_3 : wc.cell? ⟨gb334, 3, none⟩ = some (.int .i64 a0_3) := (blk_cell BK334.out 3).trans rfl
              have hfz24_0 := blk_frozen BK334.out 0
              have hfz24_1 := blk_frozen BK334.out 1
              have hfz24_2 := blk_frozen BK334.out 2
              have hfz24_3 := blk_frozen BK334.out 3
              have p337 : 0 ≤ ((ji21) : Int) := of_decide_eq_true (by first | (with_reducible assumption) | assumption)
              have q337 : (ji21) < (l0_2.length : Int) := of_decide_eq_true (by first | (with_reducible assumption) | assumption)
              obtain ⟨ad337, e337, hx337_0, hx337_1, hx337_2⟩ := at_T33 HR0_2.out (ji21) p337 q337
              cases e337
              replace hx337_0 := (HB.out.cell (World.block_lt_of_cell? w _ hx337_0)).trans hx337_0
              replace hx337_1 := (HB.out.cell (World.block_lt_of_cell? w _ hx337_1)).trans hx337_1
              replace hx337_2 := (HB.out.cell (World.block_lt_of_cell? w _ hx337_2)).trans hx337_2
              replace p337 := eq_true p337
              replace q337 := eq_true q337
              go_wp2
              go_ret2
              exact ⟨by first | rfl | (simp [errW_none, errW_some] <;> rfl) | (simp only [← hji21]; first | rfl | (simp [errW_none, errW_some] <;> rfl)) | (simp [*, errW_none, errW_some] <;> rfl), by repeat (first | (with_reducible first | exact HB.out | apply below_alloc | apply pw_below_drewN | apply below_drew1 | refine below_set ?_ GE334.out) | exact HB.out)⟩
            · rw [if_neg c23] at H
              exact absurd H (by simp)
          · rw [if_neg c22] at H
            exact absurd H (by simp)

end Go.Proofs.Ytiebeiloooblpaa.E
end
section
-- written by myprint.py, a program of this session over the kit's print.py
namespace Go.Proofs.Ytiebeiloooblpaa.E
open Go.RowKit Go.Proofs.YtiebeiloooblpaaW.PrintWords Go.Proofs.YtiebeiloooblpaaW.PrintLast Go.Proofs.YtiebeiloooblpaaW.PrintMore
attribute [local go_sem] max2_int min2_int max_two min_two max_three min_three max_four min_four   -- for this text's walks alone
set_option linter.unusedVariables false
set_option linter.unusedSimpArgs false

/-! ### entries_From: function 29 -/
def entries_From.f (k : Nat) (a0_0 : Int) (a0_1 : Int) (l0_2 : List (S33)) (a0_3 : Int) (a1 : Int) (a2 : Int) : Option ((List (S33))) := (entries_Check.f k a0_0 a0_1 l0_2 a0_3).bind fun t339 => (if t339 = 0 then (if a1 ≤ a0_0 then (some ([] : List (S33))) else ((entries_end.f a0_0 a0_1 l0_2 a0_3).bind fun t340 => (if a1 > t340 then (some ([] : List (S33))) else (if a2 < 1 then (some ([] : List (S33))) else (if 0 ≤ (wrap64 ((wrap64 (a1 - a0_0)) - 1)) then (if (wrap64 ((wrap64 (a1 - a0_0)) - 1)) ≤ (l0_2.length : Int) then ((some (l0_2.drop ((wrap64 ((wrap64 (a1 - a0_0)) - 1)) : Int).toNat : List (S33))).bind fun y341 => (if 0 ≤ (mn a2 (y341.length : Int)) then (if (mn a2 (y341.length : Int)) ≤ (y341.length : Int) then ((slicesClone_Entry.f (y341.take ((mn a2 (y341.length : Int)) : Int).toNat)).bind fun t349 => (some t349)) else (none)) else (none))) else (none)) else (none)))))) else (some ([] : List (S33))))
set_option maxHeartbeats 8000000 in
set_option maxRecDepth 100000 in
theorem entries_From.calls (k : Nat) (a0_0 : Int) (a0_1 : Int) (A0_2 : Option Addr) (c0_2 : Nat) (l0_2 : List (S33)) (a0_3 : Int) (a1 : Int) (a2 : Int) (r : List (S33)) (w : World) (hr0_2 : Kd.C k33 w A0_2 l0_2.length l0_2) (hc0_2 : l0_2.length ≤ c0_2) (h : entries_From.f k a0_0 a0_1 l0_2 a0_3 a1 a2 = some r) :
    Calls Try.prog 29 #[.agg #[.int .i64 a0_0, .int .i64 a0_1, .slice A0_2 l0_2.length c0_2, .int .i64 a0_3], .int .i64 a1, .int .i64 a2] w fun e w' => ∃ v0_ : Value, e = .returned (v0_) ∧ Kd.R k33 33 w' w.heap.size (fun _ => True) v0_ r ∧ Below w.heap.size w w' := by
  have hu26 := Try.underlying26
  have HR0_2 := Aside0.mk hr0_2
  have HC0_2 := Aside0.mk hc0_2
  clear hr0_2 hc0_2
  have HB := Aside0.mk (Below.refl w.heap.size w)
  have H : ((entries_Check.f k a0_0 a0_1 l0_2 a0_3).bind fun t339 => (if t339 = 0 then (if a1 ≤ a0_0 then (some ([] : List (S33))) else ((entries_end.f a0_0 a0_1 l0_2 a0_3).bind fun t340 => (if a1 > t340 then (some ([] : List (S33))) else (if a2 < 1 then (some ([] : List (S33))) else (if 0 ≤ (wrap64 ((wrap64 (a1 - a0_0)) - 1)) then (if (wrap64 ((wrap64 (a1 - a0_0)) - 1)) ≤ (l0_2.length : Int) then ((some (l0_2.drop ((wrap64 ((wrap64 (a1 - a0_0)) - 1)) : Int).toNat : List (S33))).bind fun y341 => (if 0 ≤ (mn a2 (y341.length : Int)) then (if (mn a2 (y341.length : Int)) ≤ (y341.length : Int) then ((slicesClone_Entry.f (y341.take ((mn a2 (y341.length : Int)) : Int).toNat)).bind fun t349 => (some t349)) else (none)) else (none))) else (none)) else (none)))))) else (some ([] : List (S33))))) = some r := h
  clear h
  replace H := Option.bind_eq_some_iff.mp H
  obtain ⟨t339, A40, H⟩ := H
  replace H : (if t339 = 0 then (if a1 ≤ a0_0 then (some ([] : List (S33))) else ((entries_end.f a0_0 a0_1 l0_2 a0_3).bind fun t340 => (if a1 > t340 then (some ([] : List (S33))) else (if a2 < 1 then (some ([] : List (S33))) else (if 0 ≤ (wrap64 ((wrap64 (a1 - a0_0)) - 1)) then (if (wrap64 ((wrap64 (a1 - a0_0)) - 1)) ≤ (l0_2.length : Int) then ((some (l0_2.drop ((wrap64 ((wrap64 (a1 - a0_0)) - 1)) : Int).toNat : List (S33))).bind fun y341 => (if 0 ≤ (mn a2 (y341.length : Int)) then (if (mn a2 (y341.length : Int)) ≤ (y341.length : Int) then ((slicesClone_Entry.f (y341.take ((mn a2 (y341.length : Int)) : Int).toNat)).bind fun t349 => (some t349)) else (none)) else (none))) else (none)) else (none)))))) else (some ([] : List (S33)))) = some r := H
  have A4 := Aside0.mk A40
  clear A40
  by_cases c5 : t339 = 0
  · rw [if_pos c5] at H
    have c5b0 : (t339 == 0) = true := beq_iff_eq.mpr c5
    have c5b1 : (t339 != 0) = false := bne_eq_false_iff_eq.mpr c5
    clear c5
    by_cases c6 : a1 ≤ a0_0
    · rw [if_pos c6] at H
      have c6b0 : decide (a1 ≤ a0_0) = true := decide_eq_true c6
      clear c6
      obtain rfl := Option.some.inj H
      go_enter Try.func29, Try.ntmps29
      go_wp2_with (first | ((with_reducible refine gate_dst (N := 3) rfl ?_); refine box_event ?hg (N := 3) ?hd (cs := #[.int .i64 a0_0, .int .i64 a0_1, .slice A0_2 l0_2.length c0_2, .int .i64 a0_3]) (t := 26) ?hr ?_; (case hd => rfl); (case hg => rfl); (case hr => first | (go_simp; done) | (go_simp; rfl)); intro gb338 hg w7 hbox hb; have n0_ := Aside0.mk (below_step (by repeat (first | (with_reducible first | exact HB.out | apply below_alloc | apply pw_below_drewN | apply below_drew1) | exact HB.out)) hb); have n1_ := Aside0.mk (hbox); have n2_ := Aside0.mk ((by rw [hg]; exact (below_size (by repeat (first | (with_reducible first | exact HB.out | apply below_alloc | apply pw_below_drewN | apply below_drew1) | exact HB.out))) : w.heap.size ≤ gb338)); have n3_ := Aside0.mk ((by rw [hg]; exact (below_size (by repeat (first | (with_reducible first | exact HB.out | apply below_alloc | apply pw_below_drewN | apply below_drew1) | exact HB.out))) : w.heap.size ≤ gb338)); clear HB; have HB := n0_; have BK338 := n1_; have GW338 := n2_; have GE338 := n3_; clear n0_ n1_ n2_ n3_; clear hb hbox hg; have hcz8_0 : w7.cell? ⟨gb338, 0, none⟩ = some (.int .i64 a0_0) := (blk_cell BK338.out 0).trans rfl; have hcz8_1 : w7.cell? ⟨gb338, 1, none⟩ = some (.int .i64 a0_1) := (blk_cell BK338.out 1).trans rfl; have hcz8_2 : w7.cell? ⟨gb338, 2, none⟩ = some (.slice A0_2 l0_2.length c0_2) := (blk_cell BK338.out 2).trans rfl; have hcz8_3 : w7.cell? ⟨gb338, 3, none⟩ = some (.int .i64 a0_3) := (blk_cell BK338.out 3).trans rfl; have hfz8_0 := blk_frozen BK338.out 0; have hfz8_1 := blk_frozen BK338.out 1; have hfz8_2 := blk_frozen BK338.out 2; have hfz8_3 := blk_frozen BK338.out 3) | ((with_reducible refine gate_callee (f := 30) rfl ?_); refine goesL_ (some 9) rfl rfl Try.func30 (by kernel_rfl) rfl #[.agg #[.int .i64 a0_0, .int .i64 a0_1, .slice A0_2 l0_2.length c0_2, .int .i64 a0_3]] rfl (by (try simp only [List.map_toArray, List.map_cons, List.map_nil]); first | done | rfl | (simp only [List.length_drop, List.length_take]; rfl)) ?_; (with_reducible refine (entries_Check.calls k a0_0 a0_1 _ _ l0_2 a0_3 t339 _ ?side1 ?side2 A4.out).mono ?_); (case side1 => repeat (first | exact (Kd.C_below HR0_2.out HB.out) | (with_reducible refine Kd.C_alloc ?_ _) | (with_reducible refine Kd.C_drewN ?_ _) | (with_reducible refine Kd.C_drew ?_))); (case side2 => exact HC0_2.out); rintro e w9 ⟨rfl, hb⟩; refine ⟨_, rfl, ?_⟩; have n0_ := Aside0.mk (blk_below (g := gb338) (o := .cells #[.int .i64 a0_0, .int .i64 a0_1, .slice A0_2 l0_2.length c0_2, .int .i64 a0_3] 26 (0, 0)) (by (with_reducible repeat (first | refine blk_drewN ?_ _ | refine blk_drew ?_ | refine blk_alloc ?_ _)); exact BK338.out) hb); have n1_ := Aside0.mk (below_step (by repeat (first | (with_reducible first | exact HB.out | apply below_alloc | apply pw_below_drewN | apply below_drew1 | refine below_set ?_ GE338.out) | exact HB.out)) hb); clear BK338; clear HB; have BK338 := n0_; have HB := n1_; clear n0_ n1_; (try clear hb); (try clear hb2); (try clear hk); (try clear hi); have hcz10_0 : w9.cell? ⟨gb338, 0, none⟩ = some (.int .i64 a0_0) := (blk_cell BK338.out 0).trans rfl; have hcz10_1 : w9.cell? ⟨gb338, 1, none⟩ = some (.int .i64 a0_1) := (blk_cell BK338.out 1).trans rfl; have hcz10_2 : w9.cell? ⟨gb338, 2, none⟩ = some (.slice A0_2 l0_2.length c0_2) := (blk_cell BK338.out 2).trans rfl; have hcz10_3 : w9.cell? ⟨gb338, 3, none⟩ = some (.int .i64 a0_3) := (blk_cell BK338.out 3).trans rfl; have hfz10_0 := blk_frozen BK338.out 0; have hfz10_1 := blk_frozen BK338.out 1; have hfz10_2 := blk_frozen BK338.out 2; have hfz10_3 := blk_frozen BK338.out 3))
      go_ret
      exact ⟨_, by first | rfl | (simp [errW_none, errW_some] <;> rfl) | (simp [*, errW_none, errW_some] <;> rfl), by first | exact Kd.R_nil _ _ _ _ _ | exact Kd.N_nil _ _ _ _ _ | exact Kd.V_nil _ _ _ _ _ | exact Kd.Q_nil _ _ _ _ _ | exact Kd.S_nil _ _ _ _ _, by repeat (first | (with_reducible first | exact HB.out | apply below_alloc | apply pw_below_drewN | apply below_drew1 | refine below_set ?_ GE338.out) | exact HB.out)⟩
    · rw [if_neg c6] at H
      have c6b0 : decide (a1 ≤ a0_0) = false := decide_eq_false c6
      clear c6
      replace H := Option.bind_eq_some_iff.mp H
      obtain ⟨t340, A110, H⟩ := H
      replace H : (if a1 > t340 then (some ([] : List (S33))) else (if a2 < 1 then (some ([] : List (S33))) else (if 0 ≤ (wrap64 ((wrap64 (a1 - a0_0)) - 1)) then (if (wrap64 ((wrap64 (a1 - a0_0)) - 1)) ≤ (l0_2.length : Int) then ((some (l0_2.drop ((wrap64 ((wrap64 (a1 - a0_0)) - 1)) : Int).toNat : List (S33))).bind fun y341 => (if 0 ≤ (mn a2 (y341.length : Int)) then (if (mn a2 (y341.length : Int)) ≤ (y341.length : Int) then ((slicesClone_Entry.f (y341.take ((mn a2 (y341.length : Int)) : Int).toNat)).bind fun t349 => (some t349)) else (none)) else (none))) else (none)) else (none)))) = some r := H
      have A11 := Aside0.mk A110
      clear A110
      by_cases c12 : a1 > t340
      · rw [if_pos c12] at H
        have c12b0 : decide (t340 < a1) = true := decide_eq_true c12
        clear c12
        obtain rfl := Option.some.inj H
        go_enter Try.func29, Try.ntmps29
        go_wp2_with (first | ((with_reducible refine gate_dst (N := 3) rfl ?_); refine box_event ?hg (N := 3) ?hd (cs := #[.int .i64 a0_0, .int .i64 a0_1, .slice A0_2 l0_2.length c0_2, .int .i64 a0_3]) (t := 26) ?hr ?_; (case hd => rfl); (case hg => rfl); (case hr => first | (go_simp; done) | (go_simp; rfl)); intro gb338 hg w13 hbox hb; have n0_ := Aside0.mk (below_step (by repeat (first | (with_reducible first | exact HB.out | apply below_alloc | apply pw_below_drewN | apply below_drew1) | exact HB.out)) hb); have n1_ := Aside0.mk (hbox); have n2_ := Aside0.mk ((by rw [hg]; exact (below_size (by repeat (first | (with_reducible first | exact HB.out | apply below_alloc | apply pw_below_drewN | apply below_drew1) | exact HB.out))) : w.heap.size ≤ gb338)); have n3_ := Aside0.mk ((by rw [hg]; exact (below_size (by repeat (first | (with_reducible first | exact HB.out | apply below_alloc | apply pw_below_drewN | apply below_drew1) | exact HB.out))) : w.heap.size ≤ gb338)); clear HB; have HB := n0_; have BK338 := n1_; have GW338 := n2_; have GE338 := n3_; clear n0_ n1_ n2_ n3_; clear hb hbox hg; have hcz14_0 : w13.cell? ⟨gb338, 0, none⟩ = some (.int .i64 a0_0) := (blk_cell BK338.out 0).trans rfl; have hcz14_1 : w13.cell? ⟨gb338, 1, none⟩ = some (.int .i64 a0_1) := (blk_cell BK338.out 1).trans rfl; have hcz14_2 : w13.cell? ⟨gb338, 2, none⟩ = some (.slice A0_2 l0_2.length c0_2) := (blk_cell BK338.out 2).trans rfl; have hcz14_3 : w13.cell? ⟨gb338, 3, none⟩ = some (.int .i64 a0_3) := (blk_cell BK338.out 3).trans rfl; have hfz14_0 := blk_frozen BK338.out 0; have hfz14_1 := blk_frozen BK338.out 1; have hfz14_2 := blk_frozen BK338.out 2; have hfz14_3 := blk_frozen BK338.out 3) | ((with_reducible refine gate_callee (f := 30) rfl ?_); refine goesL_ (some 9) rfl rfl Try.func30 (by kernel_rfl) rfl #[.agg #[.int .i64 a0_0, .int .i64 a0_1, .slice A0_2 l0_2.length c0_2, .int .i64 a0_3]] rfl (by (try simp only [List.map_toArray, List.map_cons, List.map_nil]); first | done | rfl | (simp only [List.length_drop, List.length_take]; rfl)) ?_; (with_reducible refine (entries_Check.calls k a0_0 a0_1 _ _ l0_2 a0_3 t339 _ ?side1 ?side2 A4.out).mono ?_); (case side1 => repeat (first | exact (Kd.C_below HR0_2.out HB.out) | (with_reducible refine Kd.C_alloc ?_ _) | (with_reducible refine Kd.C_drewN ?_ _) | (with_reducible refine Kd.C_drew ?_))); (case side2 => exact HC0_2.out); rintro e w15 ⟨rfl, hb⟩; refine ⟨_, rfl, ?_⟩; have n0_ := Aside0.mk (blk_below (g := gb338) (o := .cells #[.int .i64 a0_0, .int .i64 a0_1, .slice A0_2 l0_2.length c0_2, .int .i64 a0_3] 26 (0, 0)) (by (with_reducible repeat (first | refine blk_drewN ?_ _ | refine blk_drew ?_ | refine blk_alloc ?_ _)); exact BK338.out) hb); have n1_ := Aside0.mk (below_step (by repeat (first | (with_reducible first | exact HB.out | apply below_alloc | apply pw_below_drewN | apply below_drew1 | refine below_set ?_ GE338.out) | exact HB.out)) hb); clear BK338; clear HB; have BK338 := n0_; have HB := n1_; clear n0_ n1_; (try clear hb); (try clear hb2); (try clear hk); (try clear hi); have hcz16_0 : w15.cell? ⟨gb338, 0, none⟩ = some (.int .i64 a0_0) := (blk_cell BK338.out 0).trans rfl; have hcz16_1 : w15.cell? ⟨gb338, 1, none⟩ = some (.int .i64 a0_1) := (blk_cell BK338.out 1).trans rfl; have hcz16_2 : w15.cell? ⟨gb338, 2, none⟩ = some (.slice A0_2 l0_2.length c0_2) := (blk_cell BK338.out 2).trans rfl; have hcz16_3 : w15.cell? ⟨gb338, 3, none⟩ = some (.int .i64 a0_3) := (blk_cell BK338.out 3).trans rfl; have hfz16_0 := blk_frozen BK338.out 0; have hfz16_1 := blk_frozen BK338.out 1; have hfz16_2 := blk_frozen BK338.out 2; have hfz16_3 := blk_frozen BK338.out 3) | (go_at_call 44; (with_reducible refine (entries_end.calls a0_0 a0_1 _ _ l0_2 a0_3 t340 _ ?side1 ?side2 A11.out).mono ?_); (case side1 => repeat (first | exact (Kd.C_below HR0_2.out HB.out) | (with_reducible refine Kd.C_alloc ?_ _) | (with_reducible refine Kd.C_drewN ?_ _) | (with_reducible refine Kd.C_drew ?_))); (case side2 => exact HC0_2.out); rintro e w17 ⟨rfl, hb⟩; have n0_ := Aside0.mk (blk_below (g := gb338) (o := .cells #[.int .i64 a0_0, .int .i64 a0_1, .slice A0_2 l0_2.length c0_2, .int .i64 a0_3] 26 (0, 0)) (by (with_reducible repeat (first | refine blk_drewN ?_ _ | refine blk_drew ?_ | refine blk_alloc ?_ _)); exact BK338.out) hb); have n1_ := Aside0.mk (below_step (by repeat (first | (with_reducible first | exact HB.out | apply below_alloc | apply pw_below_drewN | apply below_drew1 | refine below_set ?_ GE338.out) | exact HB.out)) hb); clear BK338; clear HB; have BK338 := n0_; have HB := n1_; clear n0_ n1_; (try clear hb); (try clear hb2); (try clear hk); (try clear hi)))
        go_ret
        exact ⟨_, by first | rfl | (simp [errW_none, errW_some] <;> rfl) | (simp [*, errW_none, errW_some] <;> rfl), by first | exact Kd.R_nil _ _ _ _ _ | exact Kd.N_nil _ _ _ _ _ | exact Kd.V_nil _ _ _ _ _ | exact Kd.Q_nil _ _ _ _ _ | exact Kd.S_nil _ _ _ _ _, by repeat (first | (with_reducible first | exact HB.out | apply below_alloc | apply pw_below_drewN | apply below_drew1 | refine below_set ?_ GE338.out) | exact HB.out)⟩
      · rw [if_neg c12] at H
        have c12b0 : decide (t340 < a1) = false := decide_eq_false c12
        clear c12
        by_cases c18 : a2 < 1
        · rw [if_pos c18] at H
          have c18b0 : decide (a2 < 1) = true := decide_eq_true c18
          clear c18
          obtain rfl := Option.some.inj H
          go_enter Try.func29, Try.ntmps29
          go_wp2_with (first | ((with_reducible refine gate_dst (N := 3) rfl ?_); refine box_event ?hg (N := 3) ?hd (cs := #[.int .i64 a0_0, .int .i64 a0_1, .slice A0_2 l0_2.length c0_2, .int .i64 a0_3]) (t := 26) ?hr ?_; (case hd => rfl); (case hg => rfl); (case hr => first | (go_simp; done) | (go_simp; rfl)); intro gb338 hg w19 hbox hb; have n0_ := Aside0.mk (below_step (by repeat (first | (with_reducible first | exact HB.out | apply below_alloc | apply pw_below_drewN | apply below_drew1) | exact HB.out)) hb); have n1_ := Aside0.mk (hbox); have n2_ := Aside0.mk ((by rw [hg]; exact (below_size (by repeat (first | (with_reducible first | exact HB.out | apply below_alloc | apply pw_below_drewN | apply below_drew1) | exact HB.out))) : w.heap.size ≤ gb338)); have n3_ := Aside0.mk ((by rw [hg]; exact (below_size (by repeat (first | (with_reducible first | exact HB.out | apply below_alloc | apply pw_below_drewN | apply below_drew1) | exact HB.out))) : w.heap.size ≤ gb338)); clear HB; have HB := n0_; have BK338 := n1_; have GW338 := n2_; have GE338 := n3_; clear n0_ n1_ n2_ n3_; clear hb hbox hg; have hcz20_0 : w19.cell? ⟨gb338, 0, none⟩ = some (.int .i64 a0_0) := (blk_cell BK338.out 0).trans rfl; have hcz20_1 : w19.cell? ⟨gb338, 1, none⟩ = some (.int .i64 a0_1) := (blk_cell BK338.out 1).trans rfl; have hcz20_2 : w19.cell? ⟨gb338, 2, none⟩ = some (.slice A0_2 l0_2.length c0_2) := (blk_cell BK338.out 2).trans rfl; have hcz20_3 : w19.cell? ⟨gb338, 3, none⟩ = some (.int .i64 a0_3) := (blk_cell BK338.out 3).trans rfl; have hfz20_0 := blk_frozen BK338.out 0; have hfz20_1 := blk_frozen BK338.out 1; have hfz20_2 := blk_frozen BK338.out 2; have hfz20_3 := blk_frozen BK338.out 3) | ((with_reducible refine gate_callee (f := 30) rfl ?_); refine goesL_ (some 9) rfl rfl Try.func30 (by kernel_rfl) rfl #[.agg #[.int .i64 a0_0, .int .i64 a0_1, .slice A0_2 l0_2.length c0_2, .int .i64 a0_3]] rfl (by (try simp only [List.map_toArray, List.map_cons, List.map_nil]); first | done | rfl | (simp only [List.length_drop, List.length_take]; rfl)) ?_; (with_reducible refine (entries_Check.calls k a0_0 a0_1 _ _ l0_2 a0_3 t339 _ ?side1 ?side2 A4.out).mono ?_); (case side1 => repeat (first | exact (Kd.C_below HR0_2.out HB.out) | (with_reducible refine Kd.C_alloc ?_ _) | (with_reducible refine Kd.C_drewN ?_ _) | (with_reducible refine Kd.C_drew ?_))); (case side2 => exact HC0_2.out); rintro e w21 ⟨rfl, hb⟩; refine ⟨_, rfl, ?_⟩; have n0_ := Aside0.mk (blk_below (g := gb338) (o := .cells #[.int .i64 a0_0, .int .i64 a0_1, .slice A0_2 l0_2.length c0_2, .int .i64 a0_3] 26 (0, 0)) (by (with_reducible repeat (first | refine blk_drewN ?_ _ | refine blk_drew ?_ | refine blk_alloc ?_ _)); exact BK338.out) hb); have n1_ := Aside0.mk (below_step (by repeat (first | (with_reducible first | exact HB.out | apply below_alloc | apply pw_below_drewN | apply below_drew1 | refine below_set ?_ GE338.out) | exact HB.out)) hb); clear BK338; clear HB; have BK338 := n0_; have HB := n1_; clear n0_ n1_; (try clear hb); (try clear hb2); (try clear hk); (try clear hi); have hcz22_0 : w21.cell? ⟨gb338, 0, none⟩ = some (.int .i64 a0_0) := (blk_cell BK338.out 0).trans rfl; have hcz22_1 : w21.cell? ⟨gb338, 1, none⟩ = some (.int .i64 a0_1) := (blk_cell BK338.out 1).trans rfl; have hcz22_2 : w21.cell? ⟨gb338, 2, none⟩ = some (.slice A0_2 l0_2.length c0_2) := (blk_cell BK338.out 2).trans rfl; have hcz22_3 : w21.cell? ⟨gb338, 3, none⟩ = some (.int .i64 a0_3) := (blk_cell BK338.out 3).trans rfl; have hfz22_0 := blk_frozen BK338.out 0; have hfz22_1 := blk_frozen BK338.out 1; have hfz22_2 := blk_frozen BK338.out 2; have hfz22_3 := blk_frozen BK338.out 3) | (go_at_call 44; (with_reducible refine (entries_end.calls a0_0 a0_1 _ _ l0_2 a0_3 t340 _ ?side1 ?side2 A11.out).mono ?_); (case side1 => repeat (first | exact (Kd.C_below HR0_2.out HB.out) | (with_reducible refine Kd.C_alloc ?_ _) | (with_reducible refine Kd.C_drewN ?_ _) | (with_reducible refine Kd.C_drew ?_))); (case side2 => exact HC0_2.out); rintro e w23 ⟨rfl, hb⟩; have n0_ := Aside0.mk (blk_below (g := gb338) (o := .cells #[.int .i64 a0_0, .int .i64 a0_1, .slice A0_2 l0_2.length c0_2, .int .i64 a0_3] 26 (0, 0)) (by (with_reducible repeat (first | refine blk_drewN ?_ _ | refine blk_drew ?_ | refine blk_alloc ?_ _)); exact BK338.out) hb); have n1_ := Aside0.mk (below_step (by repeat (first | (with_reducible first | exact HB.out | apply below_alloc | apply pw_below_drewN | apply below_drew1 | refine below_set ?_ GE338.out) | exact HB.out)) hb); clear BK338; clear HB; have BK338 := n0_; have HB := n1_; clear n0_ n1_; (try clear hb); (try clear hb2); (try clear hk); (try clear hi)))
          go_ret
          exact ⟨_, by first | rfl | (simp [errW_none, errW_some] <;> rfl) | (simp [*, errW_none, errW_some] <;> rfl), by first | exact Kd.R_nil _ _ _ _ _ | exact Kd.N_nil _ _ _ _ _ | exact Kd.V_nil _ _ _ _ _ | exact Kd.Q_nil _ _ _ _ _ | exact Kd.S_nil _ _ _ _ _, by repeat (first | (with_reducible first | exact HB.out | apply below_alloc | apply pw_below_drewN | apply below_drew1 | refine below_set ?_ GE338.out) | exact HB.out)⟩
        · rw [if_neg c18] at H
          have c18b0 : decide (a2 < 1) = false := decide_eq_false c18
          clear c18
          obtain ⟨ji24, hji24⟩ : ∃ j_ : Int, (wrap64 ((wrap64 (a1 - a0_0)) - 1)) = j_ := ⟨_, rfl⟩
          replace H : (if 0 ≤ (ji24) then (if (ji24) ≤ (l0_2.length : Int) then ((some (l0_2.drop ((ji24) : Int).toNat : List (S33))).bind fun y341 => (if 0 ≤ (mn a2 (y341.length : Int)) then (if (mn a2 (y341.length : Int)) ≤ (y341.length : Int) then ((slicesClone_Entry.f (y341.take ((mn a2 (y341.length : Int)) : Int).toNat)).bind fun t349 => (some t349)) else (none)) else (none))) else (none)) else (none)) = some r := by first | (rw [hji24] at H; exact H) | (simp only [hji24] at H ⊢; exact H)
          (try rw [hji24] at A4)
          (try rw [hji24] at A11)
          have hji24w : (IntKind.i64.wrap ((wrap64 (a1 - a0_0)) - 1)) = ji24 := (i64_w _).trans hji24
          by_cases c25 : 0 ≤ (ji24)
          · rw [if_pos c25] at H
            have c25b0 := eq_true c25
            have c25b1 : decide (0 ≤ (ji24)) = true := decide_eq_true c25
            clear c25
            by_cases c26 : (ji24) ≤ (l0_2.length : Int)
            · rw [if_pos c26] at H
              have c26b0 := eq_true c26
              have c26b1 : decide ((ji24) ≤ (l0_2.length : Int)) = true := decide_eq_true c26
              clear c26
              obtain ⟨y341, hy341⟩ : ∃ y_ : List (S33), y_ = (l0_2.drop ((ji24) : Int).toNat) := ⟨_, rfl⟩
              replace H : (if 0 ≤ (mn a2 (y341.length : Int)) then (if (mn a2 (y341.length : Int)) ≤ (y341.length : Int) then ((slicesClone_Entry.f (y341.take ((mn a2 (y341.length : Int)) : Int).toNat)).bind fun t349 => (some t349)) else (none)) else (none)) = some r := by first | (rw [hy341]; with_reducible exact H) | (have H2_ := (Option.bind_some _ _).symm.trans H; rw [hy341]; with_reducible exact H2_) | (have H2_ := (Option.bind_some _ _).symm.trans H; with_reducible exact H2_) | with_reducible exact H | (rw [hy341]; exact H) | exact H
              have Ny341 := Aside0.mk hy341
              clear hy341
              obtain ⟨ji27, hji27⟩ : ∃ j_ : Int, (mn a2 (y341.length : Int)) = j_ := ⟨_, rfl⟩
              replace H : (if 0 ≤ (ji27) then (if (ji27) ≤ (y341.length : Int) then ((slicesClone_Entry.f (y341.take ((ji27) : Int).toNat)).bind fun t349 => (some t349)) else (none)) else (none)) = some r := by first | (rw [hji27] at H; exact H) | (simp only [hji27] at H ⊢; exact H)
              (try rw [hji27] at A4)
              (try rw [hji27] at A11)
              have hji27_ : (if (y341.length : Int) < a2 then (y341.length : Int) else a2) = ji27 := hji27
              by_cases c28 : 0 ≤ (ji27)
              · rw [if_pos c28] at H
                have c28b0 := eq_true c28
                have c28b1 : decide (0 ≤ (ji27)) = true := decide_eq_true c28
                clear c28
                by_cases c29 : (ji27) ≤ (y341.length : Int)
                · rw [if_pos c29] at H
                  have c29b0 := eq_true c29
                  have c29b1 : decide ((ji27) ≤ (y341.length : Int)) = true := decide_eq_true c29
                  clear c29
                  obtain ⟨y345, hy345⟩ : ∃ y_ : List (S33), y_ = (y341.take ((ji27) : Int).toNat) := ⟨_, rfl⟩
                  replace H : ((slicesClone_Entry.f y345).bind fun t349 => (some t349)) = some r := by first | (rw [hy345]; with_reducible exact H) | (have H2_ := (Option.bind_some _ _).symm.trans H; rw [hy345]; with_reducible exact H2_) | (have H2_ := (Option.bind_some _ _).symm.trans H; with_reducible exact H2_) | with_reducible exact H | (rw [hy345]; exact H) | exact H
                  have Ny345 := Aside0.mk hy345
                  clear hy345
                  replace H := Option.bind_eq_some_iff.mp H
                  obtain ⟨t349, A300, H⟩ := H
                  replace H : (some t349) = some r := H
                  have A30 := Aside0.mk A300
                  clear A300
                  obtain rfl := Option.some.inj H
                  go_enter Try.func29, Try.ntmps29
                  go_wp2_with (first | ((with_reducible refine gate_dst (N := 3) rfl ?_); refine box_event ?hg (N := 3) ?hd (cs := #[.int .i64 a0_0, .int .i64 a0_1, .slice A0_2 l0_2.length c0_2, .int .i64 a0_3]) (t := 26) ?hr ?_; (case hd => rfl); (case hg => rfl); (case hr => first | (go_simp; done) | (go_simp; rfl)); intro gb338 hg w31 hbox hb; have n0_ := Aside0.mk (below_step (by repeat (first | (with_reducible first | exact HB.out | apply below_alloc | apply pw_below_drewN | apply below_drew1) | exact HB.out)) hb); have n1_ := Aside0.mk (hbox); have n2_ := Aside0.mk ((by rw [hg]; exact (below_size (by repeat (first | (with_reducible first | exact HB.out | apply below_alloc | apply pw_below_drewN | apply below_drew1) | exact HB.out))) : w.heap.size ≤ gb338)); have n3_ := Aside0.mk ((by rw [hg]; exact (below_size (by repeat (first | (with_reducible first | exact HB.out | apply below_alloc | apply pw_below_drewN | apply below_drew1) | exact HB.out))) : w.heap.size ≤ gb338)); clear HB; have HB := n0_; have BK338 := n1_; have GW338 := n2_; have GE338 := n3_; clear n0_ n1_ n2_ n3_; clear hb hbox hg; have hcz32_0 : w31.cell? ⟨gb338, 0, none⟩ = some (.int .i64 a0_0) := (blk_cell BK338.out 0).trans rfl; have hcz32_1 : w31.cell? ⟨gb338, 1, none⟩ = some (.int .i64 a0_1) := (blk_cell BK338.out 1).trans rfl; have hcz32_2 : w31.cell? ⟨gb338, 2, none⟩ = some (.slice A0_2 l0_2.length c0_2) := (blk_cell BK338.out 2).trans rfl; have hcz32_3 : w31.cell? ⟨gb338, 3, none⟩ = some (.int .i64 a0_3) := (blk_cell BK338.out 3).trans rfl; have hfz32_0 := blk_frozen BK338.out 0; have hfz32_1 := blk_frozen BK338.out 1; have hfz32_2 := blk_frozen BK338.out 2; have hfz32_3 := blk_frozen BK338.out 3) | ((with_reducible refine gate_callee (f := 30) rfl ?_); refine goesL_ (some 9) rfl rfl Try.func30 (by kernel_rfl) rfl #[.agg #[.int .i64 a0_0, .int .i64 a0_1, .slice A0_2 l0_2.length c0_2, .int .i64 a0_3]] rfl (by (try simp only [List.map_toArray, List.map_cons, List.map_nil]); first | done | rfl | (simp only [List.length_drop, List.length_take]; rfl)) ?_; (with_reducible refine (entries_Check.calls k a0_0 a0_1 _ _ l0_2 a0_3 t339 _ ?side1 ?side2 A4.out).mono ?_); (case side1 => repeat (first | exact (Kd.C_below HR0_2.out HB.out) | (with_reducible refine Kd.C_alloc ?_ _) | (with_reducible refine Kd.C_drewN ?_ _) | (with_reducible refine Kd.C_drew ?_))); (case side2 => exact HC0_2.out); rintro e w33 ⟨rfl, hb⟩; refine ⟨_, rfl, ?_⟩; have n0_ := Aside0.mk (blk_below (g := gb338) (o := .cells #[.int .i64 a0_0, .int .i64 a0_1, .slice A0_2 l0_2.length c0_2, .int .i64 a0_3] 26 (0, 0)) (by (with_reducible repeat (first | refine blk_drewN ?_ _ | refine blk_drew ?_ | refine blk_alloc ?_ _)); exact BK338.out) hb); have n1_ := Aside0.mk (below_step (by repeat (first | (with_reducible first | exact HB.out | apply below_alloc | apply pw_below_drewN | apply below_drew1 | refine below_set ?_ GE338.out) | exact HB.out)) hb); clear BK338; clear HB; have BK338 := n0_; have HB := n1_; clear n0_ n1_; (try clear hb); (try clear hb2); (try clear hk); (try clear hi); have hcz34_0 : w33.cell? ⟨gb338, 0, none⟩ = some (.int .i64 a0_0) := (blk_cell BK338.out 0).trans rfl; have hcz34_1 : w33.cell? ⟨gb338, 1, none⟩ = some (.int .i64 a0_1) := (blk_cell BK338.out 1).trans rfl; have hcz34_2 : w33.cell? ⟨gb338, 2, none⟩ = some (.slice A0_2 l0_2.length c0_2) := (blk_cell BK338.out 2).trans rfl; have hcz34_3 : w33.cell? ⟨gb338, 3, none⟩ = some (.int .i64 a0_3) := (blk_cell BK338.out 3).trans rfl; have hfz34_0 := blk_frozen BK338.out 0; have hfz34_1 := blk_frozen BK338.out 1; have hfz34_2 := blk_frozen BK338.out 2; have hfz34_3 := blk_frozen BK338.out 3) | (go_at_call 44; (with_reducible refine (entries_end.calls a0_0 a0_1 _ _ l0_2 a0_3 t340 _ ?side1 ?side2 A11.out).mono ?_); (case side1 => repeat (first | exact (Kd.C_below HR0_2.out HB.out) | (with_reducible refine Kd.C_alloc ?_ _) | (with_reducible refine Kd.C_drewN ?_ _) | (with_reducible refine Kd.C_drew ?_))); (case side2 => exact HC0_2.out); rintro e w35 ⟨rfl, hb⟩; have n0_ := Aside0.mk (blk_below (g := gb338) (o := .cells #[.int .i64 a0_0, .int .i64 a0_1, .slice A0_2 l0_2.length c0_2, .int .i64 a0_3] 26 (0, 0)) (by (with_reducible repeat (first | refine blk_drewN ?_ _ | refine blk_drew ?_ | refine blk_alloc ?_ _)); exact BK338.out) hb); have n1_ := Aside0.mk (below_step (by repeat (first | (with_reducible first | exact HB.out | apply below_alloc | apply pw_below_drewN | apply below_drew1 | refine below_set ?_ GE338.out) | exact HB.out)) hb); clear BK338; clear HB; have BK338 := n0_; have HB := n1_; clear n0_ n1_; (try clear hb); (try clear hb2); (try clear hk); (try clear hi); have hcz36_0 : w35.cell? ⟨gb338, 0, none⟩ = some (.int .i64 a0_0) := (blk_cell BK338.out 0).trans rfl; have hcz36_1 : w35.cell? ⟨gb338, 1, none⟩ = some (.int .i64 a0_1) := (blk_cell BK338.out 1).trans rfl; have hcz36_2 : w35.cell? ⟨gb338, 2, none⟩ = some (.slice A0_2 l0_2.length c0_2) := (blk_cell BK338.out 2).trans rfl; have hcz36_3 : w35.cell? ⟨gb338, 3, none⟩ = some (.int .i64 a0_3) := (blk_cell BK338.out 3).trans rfl; have hfz36_0 := blk_frozen BK338.out 0; have hfz36_1 := blk_frozen BK338.out 1; have hfz36_2 := blk_frozen BK338.out 2; have hfz36_3 := blk_frozen BK338.out 3; have q37 : ((ji24) : Int) ≤ ((l0_2.length : Int) : Int) := of_decide_eq_true (by first | (with_reducible assumption) | assumption); obtain ⟨i037, hi037, _, hsz37, _⟩ := info_parts info33; have hroom37 : l0_2.length ≤ c0_2 := HC0_2.out; have hC37 : Kd.C k33 _ A0_2 l0_2.length l0_2 := HR0_2.out; have q037 : (0 : Int) ≤ ((ji24) : Int) := of_decide_eq_true (by first | (with_reducible assumption) | assumption); have hcut37 := cut_from (P := Try.prog) 24 33 .i64 Try.underlying24 hi037 3 hsz37 A0_2 l0_2.length c0_2 (ji24) q037 q37; have hr37 := Kd.C_drop (m := ((ji24) : Int).toNat) (c := c0_2) hC37 (by omega) hroom37; obtain ⟨A37, hA37⟩ : ∃ A1, A1 = (if c0_2 = ((ji24) : Int).toNat then A0_2 else (A0_2 : Option Addr).map (·.add (((ji24) : Int).toNat * 3))) := ⟨_, rfl⟩; obtain ⟨c37, hc37⟩ : ∃ c1, c1 = c0_2 - ((ji24) : Int).toNat := ⟨_, rfl⟩; have hy37 : y341.length = l0_2.length - ((ji24) : Int).toNat := (by rw [Ny341.out, List.length_drop] <;> omega); rw [show (l0_2).drop ((ji24) : Int).toNat = y341 from Ny341.out.symm] at hr37; replace hr37 : Kd.C k33 _ A37 y341.length y341 := (by rw [hA37]; exact hr37); rw [← hy37, ← hA37, ← hc37] at hcut37; have HR344 := Aside0.mk hr37; have HC344 := Aside0.mk (show y341.length ≤ c37 from by rw [hy37, hc37]; exact Nat.sub_le_sub_right hroom37 _); clear hr37 hC37 hroom37 hi037 hsz37 hc37; have KY37 := Aside0.mk hy37; have KA37 := Aside0.mk hA37; clear hy37 hA37; replace q37 := eq_true q37; have q38 : ((ji27) : Int) ≤ ((y341.length : Int) : Int) := of_decide_eq_true (by first | (with_reducible assumption) | assumption); obtain ⟨i038, hi038, _, hsz38, _⟩ := info_parts info33; have hroom38 : y341.length ≤ c37 := HC344.out; have hC38 : Kd.C k33 _ A37 y341.length y341 := HR344.out; have hcut38 := cut_to (P := Try.prog) 24 33 .i64 Try.underlying24 hi038 A37 y341.length c37 (ji27) (of_decide_eq_true (by first | (with_reducible assumption) | assumption)) q38 hroom38; have hr38 := Kd.C_take (m := ((ji27) : Int).toNat) hC38 (by omega); have hy38 : y345.length = ((ji27) : Int).toNat := (by rw [Ny345.out, List.length_take]; omega); rw [← Ny345.out] at hr38; rw [← hy38] at hcut38; have HR348 := Aside0.mk hr38; have HC348 := Aside0.mk (show y345.length ≤ c37 from by omega); clear hr38 hC38 hroom38 hi038 hsz38; have KY38 := Aside0.mk hy38; clear hy38; replace q38 := eq_true q38) | ((with_reducible refine gate_callee (f := 39) rfl ?_); refine goesL_ (some 43) rfl rfl Try.func39 (by kernel_rfl) rfl #[.slice A37 y345.length c37] rfl (by (try simp only [List.map_toArray, List.map_cons, List.map_nil]); first | done | rfl | (simp only [List.length_drop, List.length_take]; rfl)) ?_; (with_reducible refine (slicesClone_Entry.calls _ _ y345 t349 _ ?side1 ?side2 A30.out).mono ?_); (case side1 => repeat (first | exact (Kd.C_below HR348.out HB.out) | (with_reducible refine Kd.C_alloc ?_ _) | (with_reducible refine Kd.C_drewN ?_ _) | (with_reducible refine Kd.C_drew ?_))); (case side2 => exact HC348.out); rintro e w39 ⟨v350, rfl, ho0, hb⟩; refine ⟨_, rfl, ?_⟩; have n0_ := Aside0.mk (Kd.R_lower ho0 (below_size (by repeat (first | (with_reducible first | exact HB.out | apply below_alloc | apply pw_below_drewN | apply below_drew1 | refine below_set ?_ GE338.out) | exact HB.out)))); have n1_ := Aside0.mk (blk_below (g := gb338) (o := .cells #[.int .i64 a0_0, .int .i64 a0_1, .slice A0_2 l0_2.length c0_2, .int .i64 a0_3] 26 (0, 0)) (by (with_reducible repeat (first | refine blk_drewN ?_ _ | refine blk_drew ?_ | refine blk_alloc ?_ _)); exact BK338.out) hb); have n2_ := Aside0.mk (below_step (by repeat (first | (with_reducible first | exact HB.out | apply below_alloc | apply pw_below_drewN | apply below_drew1 | refine below_set ?_ GE338.out) | exact HB.out)) hb); clear BK338; clear HB; have HO351 := n0_; have BK338 := n1_; have HB := n2_; clear n0_ n1_ n2_; (try clear hb); (try clear hb2); (try clear hk); (try clear hi); (try clear ho0)))
                  go_ret
                  exact ⟨_, by first | rfl | (simp [errW_none, errW_some] <;> rfl) | (simp only [← hji24, ← hji27]; first | rfl | (simp [errW_none, errW_some] <;> rfl)) | (simp [*, errW_none, errW_some] <;> rfl), by (with_reducible repeat (first | apply Kd.R_alloc | apply Kd.R_drewN | apply Kd.R_drew)); exact HO351.out, by repeat (first | (with_reducible first | exact HB.out | apply below_alloc | apply pw_below_drewN | apply below_drew1 | refine below_set ?_ GE338.out) | exact HB.out)⟩
                · rw [if_neg c29] at H
                  exact absurd H (by simp)
              · rw [if_neg c28] at H
                exact absurd H (by simp)
            · rw [if_neg c26] at H
              exact absurd H (by simp)
          · rw [if_neg c25] at H
            exact absurd H (by simp)
  · rw [if_neg c5] at H
    have c5b0 : (t339 == 0) = false := beq_eq_false_iff_ne.mpr c5
    have c5b1 : (t339 != 0) = true := bne_iff_ne.mpr c5
    obtain rfl := Option.some.inj H
    go_enter Try.func29, Try.ntmps29
    go_wp2_with (first | ((with_reducible refine gate_dst (N := 3) rfl ?_); refine box_event ?hg (N := 3) ?hd (cs := #[.int .i64 a0_0, .int .i64 a0_1, .slice A0_2 l0_2.length c0_2, .int .i64 a0_3]) (t := 26) ?hr ?_; (case hd => rfl); (case hg => rfl); (case hr => first | (go_simp; done) | (go_simp; rfl)); intro gb338 hg w40 hbox hb; have n0_ := Aside0.mk (below_step (by repeat (first | (with_reducible first | exact HB.out | apply below_alloc | apply pw_below_drewN | apply below_drew1) | exact HB.out)) hb); have n1_ := Aside0.mk (hbox); have n2_ := Aside0.mk ((by rw [hg]; exact (below_size (by repeat (first | (with_reducible first | exact HB.out | apply below_alloc | apply pw_below_drewN | apply below_drew1) | exact HB.out))) : w.heap.size ≤ gb338)); have n3_ := Aside0.mk ((by rw [hg]; exact (below_size (by repeat (first | (with_reducible first | exact HB.out | apply below_alloc | apply pw_below_drewN | apply below_drew1) | exact HB.out))) : w.heap.size ≤ gb338)); clear HB; have HB := n0_; have BK338 := n1_; have GW338 := n2_; have GE338 := n3_; clear n0_ n1_ n2_ n3_; clear hb hbox hg; have hcz41_0 : w40.cell? ⟨gb338, 0, none⟩ = some (.int .i64 a0_0) := (blk_cell BK338.out 0).trans rfl; have hcz41_1 : w40.cell? ⟨gb338, 1, none⟩ = some (.int .i64 a0_1) := (blk_cell BK338.out 1).trans rfl; have hcz41_2 : w40.cell? ⟨gb338, 2, none⟩ = some (.slice A0_2 l0_2.length c0_2) := (blk_cell BK338.out 2).trans rfl; have hcz41_3 : w40.cell? ⟨gb338, 3, none⟩ = some (.int .i64 a0_3) := (blk_cell BK338.out 3).trans rfl; have hfz41_0 := blk_frozen BK338.out 0; have hfz41_1 := blk_frozen BK338.out 1; have hfz41_2 := blk_frozen BK338.out 2; have hfz41_3 := blk_frozen BK338.out 3) | ((with_reducible refine gate_callee (f := 30) rfl ?_); refine goesL_ (some 9) rfl rfl Try.func30 (by kernel_rfl) rfl #[.agg #[.int .i64 a0_0, .int .i64 a0_1, .slice A0_2 l0_2.length c0_2, .int .i64 a0_3]] rfl (by (try simp only [List.map_toArray, List.map_cons, List.map_nil]); first | done | rfl | (simp only [List.length_drop, List.length_take]; rfl)) ?_; (with_reducible refine (entries_Check.calls k a0_0 a0_1 _ _ l0_2 a0_3 t339 _ ?side1 ?side2 A4.out).mono ?_); (case side1 => repeat (first | exact (Kd.C_below HR0_2.out HB.out) | (with_reducible refine Kd.C_alloc ?_ _) | (with_reducible refine Kd.C_drewN ?_ _) | (with_reducible refine Kd.C_drew ?_))); (case side2 => exact HC0_2.out); rintro e w42 ⟨rfl, hb⟩; refine ⟨_, rfl, ?_⟩; have n0_ := Aside0.mk (blk_below (g := gb338) (o := .cells #[.int .i64 a0_0, .int .i64 a0_1, .slice A0_2 l0_2.length c0_2, .int .i64 a0_3] 26 (0, 0)) (by (with_reducible repeat (first | refine blk_drewN ?_ _ | refine blk_drew ?_ | refine blk_alloc ?_ _)); exact BK338.out) hb); have n1_ := Aside0.mk (below_step (by repeat (first | (with_reducible first | exact HB.out | apply below_alloc | apply pw_below_drewN | apply below_drew1 | refine below_set ?_ GE338.out) | exact HB.out)) hb); clear BK338; clear HB; have BK338 := n0_; have HB := n1_; clear n0_ n1_; (try clear hb); (try clear hb2); (try clear hk); (try clear hi)))
    go_ret
    exact ⟨_, by first | rfl | (simp [errW_none, errW_some] <;> rfl) | (simp [*, errW_none, errW_some] <;> rfl), by first | exact Kd.R_nil _ _ _ _ _ | exact Kd.N_nil _ _ _ _ _ | exact Kd.V_nil _ _ _ _ _ | exact Kd.Q_nil _ _ _ _ _ | exact Kd.S_nil _ _ _ _ _, by repeat (first | (with_reducible first | exact HB.out | apply below_alloc | apply pw_below_drewN | apply below_drew1 | refine below_set ?_ GE338.out) | exact HB.out)⟩

end Go.Proofs.Ytiebeiloooblpaa.E
end
section
-- written by myprint.py, a program of this session over the kit's print.py
namespace Go.Proofs.Ytiebeiloooblpaa.E
open Go.Proofs.YtiebeiloooblpaaST
open Go.RowKit Go.Proofs.YtiebeiloooblpaaW.PrintWords Go.Proofs.YtiebeiloooblpaaW.PrintLast Go.Proofs.YtiebeiloooblpaaW.PrintMore
attribute [local go_sem] max2_int min2_int max_two min_two max_three min_three max_four min_four   -- for this text's walks alone
set_option linter.unusedVariables false
set_option linter.unusedSimpArgs false

/-! ### rialtoref08_Last: function 33 -/
def rialtoref08_Last.f (k : Nat) (a0_0 : Int) (a0_1 : Int) (l0_2 : List (S33)) (a0_3 : Int) : Option (Int × Int) := (rialtoref08_Check.f k a0_0 a0_1 l0_2 a0_3).bind fun t354 => (if t354 = 0 then (if (l0_2.length : Int) = 0 then (some (a0_0, a0_1)) else ((rialtoref08_end.f a0_0 a0_1 l0_2 a0_3).bind fun t355 => (if 0 ≤ (wrap64 ((l0_2.length : Int) - 1)) then (if (wrap64 ((l0_2.length : Int) - 1)) < (l0_2.length : Int) then (some (t355, (rd_T33 l0_2 (wrap64 ((l0_2.length : Int) - 1))).f0)) else (none)) else (none)))) else (some (0, 0)))
def rialtoref08_Last.T5 : Bool × List (List Nat × List Nat) := (true, [([], []), ([0], [0]), ([], []), ([2], [2]), ([], []), ([4], [4]), ([5], [5]), ([6], [6]), ([3, 7], [3, 7]), ([8], [8]), ([9], [9]), ([1, 10], [1, 10]), ([11, 1, 0, 1, 2, 3, 4, 5, 6, 7, 8, 9, 10, 11], [11])])
def rialtoref08_Last.B5 : List Nat := [0, 1, 0, 4, 0, 16, 48, 112, 252, 508, 1020, 2047, 4095]
theorem rialtoref08_Last.tab5 : rtab .any (opsOf Try.f33 5) = rialtoref08_Last.T5 := by kernel_rfl
theorem rialtoref08_Last.bits5 : waitsOk rialtoref08_Last.T5.2 rialtoref08_Last.B5 = true := by kernel_rfl
set_option maxHeartbeats 8000000 in
set_option maxRecDepth 100000 in
theorem rialtoref08_Last.calls (k : Nat) (a0_0 : Int) (a0_1 : Int) (A0_2 : Option Addr) (c0_2 : Nat) (l0_2 : List (S33)) (a0_3 : Int) (r1 : Int) (r2 : Int) (w : World) (hr0_2 : Kd.C k33 w A0_2 l0_2.length l0_2) (hc0_2 : l0_2.length ≤ c0_2) (h : rialtoref08_Last.f k a0_0 a0_1 l0_2 a0_3 = some (r1, r2)) :
    Calls Try.prog 33 #[.agg #[.int .i64 a0_0, .int .i64 a0_1, .slice A0_2 l0_2.length c0_2, .int .i64 a0_3]] w fun e w' => e = .returned (.agg #[.int .i64 r1, .int .i64 r2]) ∧ Below w.heap.size w w' := by
  have hu26 := Try.underlying26
  have hu23 := Try.underlying23
  have HR0_2 := Aside0.mk hr0_2
  have HC0_2 := Aside0.mk hc0_2
  clear hr0_2 hc0_2
  have HB := Aside0.mk (Below.refl w.heap.size w)
  have H : ((rialtoref08_Check.f k a0_0 a0_1 l0_2 a0_3).bind fun t354 => (if t354 = 0 then (if (l0_2.length : Int) = 0 then (some (a0_0, a0_1)) else ((rialtoref08_end.f a0_0 a0_1 l0_2 a0_3).bind fun t355 => (if 0 ≤ (wrap64 ((l0_2.length : Int) - 1)) then (if (wrap64 ((l0_2.length : Int) - 1)) < (l0_2.length : Int) then (some (t355, (rd_T33 l0_2 (wrap64 ((l0_2.length : Int) - 1))).f0)) else (none)) else (none)))) else (some (0, 0)))) = some (r1, r2) := h
  clear h
  replace H := Option.bind_eq_some_iff.mp H
  obtain ⟨t354, A20, H⟩ := H
  replace H : (if t354 = 0 then (if (l0_2.length : Int) = 0 then (some (a0_0, a0_1)) else ((rialtoref08_end.f a0_0 a0_1 l0_2 a0_3).bind fun t355 => (if 0 ≤ (wrap64 ((l0_2.length : Int) - 1)) then (if (wrap64 ((l0_2.length : Int) - 1)) < (l0_2.length : Int) then (some (t355, (rd_T33 l0_2 (wrap64 ((l0_2.length : Int) - 1))).f0)) else (none)) else (none)))) else (some (0, 0))) = some (r1, r2) := H
  have A2 := Aside0.mk A20
  clear A20
  by_cases c3 : t354 = 0
  · rw [if_pos c3] at H
    have c3b0 : (t354 == 0) = true := beq_iff_eq.mpr c3
    have c3b1 : (t354 != 0) = false := bne_eq_false_iff_eq.mpr c3
    clear c3
    by_cases c4 : (l0_2.length : Int) = 0
    · rw [if_pos c4] at H
      have c4b0 : ((l0_2.length : Int) == 0) = true := beq_iff_eq.mpr c4
      have c4b1 : ((l0_2.length : Int) != 0) = false := bne_eq_false_iff_eq.mpr c4
      clear c4
      simp only [Option.some.injEq, Prod.mk.injEq] at H
      obtain ⟨rfl, rfl⟩ := H
      go_enter Try.func33, Try.ntmps33
      go_wp2_with (first | ((with_reducible refine gate_dst (N := 1) rfl ?_); refine box_event ?hg (N := 1) ?hd (cs := #[.int .i64 a0_0, .int .i64 a0_1, .slice A0_2 l0_2.length c0_2, .int .i64 a0_3]) (t := 26) ?hr ?_; (case hd => rfl); (case hg => rfl); (case hr => first | (go_simp; done) | (go_simp; rfl)); intro gb352 hg w5 hbox hb; have n0_ := Aside0.mk (below_step (by repeat (first | (with_reducible first | exact HB.out | apply below_alloc | apply pw_below_drewN | apply below_drew1) | exact HB.out)) hb); have n1_ := Aside0.mk (hbox); have n2_ := Aside0.mk ((by rw [hg]; exact (below_size (by repeat (first | (with_reducible first | exact HB.out | apply below_alloc | apply pw_below_drewN | apply below_drew1) | exact HB.out))) : w.heap.size ≤ gb352)); have n3_ := Aside0.mk ((by rw [hg]; exact (below_size (by repeat (first | (with_reducible first | exact HB.out | apply below_alloc | apply pw_below_drewN | apply below_drew1) | exact HB.out))) : w.heap.size ≤ gb352)); clear HB; have HB := n0_; have BK352 := n1_; have GW352 := n2_; have GE352 := n3_; clear n0_ n1_ n2_ n3_; clear hb hbox hg) | ((with_reducible refine gate_dst (N := 2) rfl ?_); refine box_event ?hg (N := 2) ?hd (cs := #[.int .i64 0, .int .i64 0]) (t := 23) ?hr ?_; (case hd => rfl); (case hg => rfl); (case hr => first | (go_simp; done) | (go_simp; rfl)); intro gb353 hg w6 hbox hb; have n0_ := Aside0.mk (blk_below (g := gb352) (o := .cells #[.int .i64 a0_0, .int .i64 a0_1, .slice A0_2 l0_2.length c0_2, .int .i64 a0_3] 26 (0, 0)) (by (with_reducible repeat (first | refine blk_drewN ?_ _ | refine blk_drew ?_ | refine blk_alloc ?_ _)); exact BK352.out) hb); have n1_ := Aside0.mk (below_step (by repeat (first | (with_reducible first | exact HB.out | apply below_alloc | apply pw_below_drewN | apply below_drew1 | refine below_set ?_ GE352.out) | exact HB.out)) hb); have n2_ := Aside0.mk (hbox); have n3_ := Aside0.mk ((by rw [hg]; exact (below_size (by repeat (first | (with_reducible first | exact HB.out | apply below_alloc | apply pw_below_drewN | apply below_drew1 | refine below_set ?_ GE352.out) | exact HB.out))) : w.heap.size ≤ gb353)); have n4_ := Aside0.mk ((by rw [hg]; exact (below_size (by repeat (first | (with_reducible first | exact HB.out | apply below_alloc | apply pw_below_drewN | apply below_drew1 | refine below_set ?_ GE352.out) | exact HB.out))) : w.heap.size ≤ gb353)); have n5_ := Aside0.mk ((by rw [hg]; exact Nat.ne_of_lt (blk_lt (g := gb352) (o := .cells #[.int .i64 a0_0, .int .i64 a0_1, .slice A0_2 l0_2.length c0_2, .int .i64 a0_3] 26 (0, 0)) (by (with_reducible repeat (first | refine blk_drewN ?_ _ | refine blk_drew ?_ | refine blk_alloc ?_ _)); exact BK352.out)) : gb352 ≠ gb353)); have n6_ := Aside0.mk ((by rw [hg]; exact Nat.ne_of_gt (blk_lt (g := gb352) (o := .cells #[.int .i64 a0_0, .int .i64 a0_1, .slice A0_2 l0_2.length c0_2, .int .i64 a0_3] 26 (0, 0)) (by (with_reducible repeat (first | refine blk_drewN ?_ _ | refine blk_drew ?_ | refine blk_alloc ?_ _)); exact BK352.out)) : gb353 ≠ gb352)); clear BK352; clear HB; have BK352 := n0_; have HB := n1_; have BK353 := n2_; have GW353 := n3_; have GE353 := n4_; have NB352_353 := n5_; have NB353_352 := n6_; clear n0_ n1_ n2_ n3_ n4_ n5_ n6_; clear hb hbox hg; have hnb7 := NB352_353.out; have hnc7 := NB353_352.out; have hcz8_0 : w6.cell? ⟨gb352, 0, none⟩ = some (.int .i64 a0_0) := (blk_cell BK352.out 0).trans rfl; have hcz8_1 : w6.cell? ⟨gb352, 1, none⟩ = some (.int .i64 a0_1) := (blk_cell BK352.out 1).trans rfl; have hcz8_2 : w6.cell? ⟨gb352, 2, none⟩ = some (.slice A0_2 l0_2.length c0_2) := (blk_cell BK352.out 2).trans rfl; have hcz8_3 : w6.cell? ⟨gb352, 3, none⟩ = some (.int .i64 a0_3) := (blk_cell BK352.out 3).trans rfl; have hfz8_0 := blk_frozen BK352.out 0; have hfz8_1 := blk_frozen BK352.out 1; have hfz8_2 := blk_frozen BK352.out 2; have hfz8_3 := blk_frozen BK352.out 3) | ((with_reducible refine gate_callee (f := 31) rfl ?_); refine goesL_ (some 4) rfl rfl Try.func31 (by kernel_rfl) rfl #[.agg #[.int .i64 a0_0, .int .i64 a0_1, .slice A0_2 l0_2.length c0_2, .int .i64 a0_3]] rfl (by (try simp only [List.map_toArray, List.map_cons, List.map_nil]); first | done | rfl | (simp only [List.length_drop, List.length_take]; rfl)) ?_; (with_reducible refine (rialtoref08_Check.calls k a0_0 a0_1 _ _ l0_2 a0_3 t354 _ ?side1 ?side2 A2.out).mono ?_); (case side1 => repeat (first | exact (Kd.C_below HR0_2.out HB.out) | (with_reducible refine Kd.C_alloc ?_ _) | (with_reducible refine Kd.C_drewN ?_ _) | (with_reducible refine Kd.C_drew ?_))); (case side2 => exact HC0_2.out); rintro e w9 ⟨rfl, hb⟩; refine ⟨_, rfl, ?_⟩; have n0_ := Aside0.mk (blk_below (g := gb352) (o := .cells #[.int .i64 a0_0, .int .i64 a0_1, .slice A0_2 l0_2.length c0_2, .int .i64 a0_3] 26 (0, 0)) (by (with_reducible repeat (first | refine blk_drewN ?_ _ | refine blk_drew ?_ | refine blk_alloc ?_ _)); exact BK352.out) hb); have n1_ := Aside0.mk (blk_below (g := gb353) (o := .cells #[.int .i64 0, .int .i64 0] 23 (0, 0)) (by (with_reducible repeat (first | refine blk_drewN ?_ _ | refine blk_drew ?_ | refine blk_alloc ?_ _)); exact BK353.out) hb); have n2_ := Aside0.mk (below_step (by repeat (first | (with_reducible first | exact HB.out | apply below_alloc | apply pw_below_drewN | apply below_drew1 | refine below_set ?_ GE352.out | refine below_set ?_ GE353.out) | exact HB.out)) hb); clear BK352; clear BK353; clear HB; have BK352 := n0_; have BK353 := n1_; have HB := n2_; clear n0_ n1_ n2_; (try clear hb); (try clear hb2); (try clear hk); (try clear hi); have hcz10_0 : w9.cell? ⟨gb352, 0, none⟩ = some (.int .i64 a0_0) := (blk_cell BK352.out 0).trans rfl; have hcz10_1 : w9.cell? ⟨gb352, 1, none⟩ = some (.int .i64 a0_1) := (blk_cell BK352.out 1).trans rfl; have hcz10_2 : w9.cell? ⟨gb352, 2, none⟩ = some (.slice A0_2 l0_2.length c0_2) := (blk_cell BK352.out 2).trans rfl; have hcz10_3 : w9.cell? ⟨gb352, 3, none⟩ = some (.int .i64 a0_3) := (blk_cell BK352.out 3).trans rfl; have hfz10_0 := blk_frozen BK352.out 0; have hfz10_1 := blk_frozen BK352.out 1; have hfz10_2 := blk_frozen BK352.out 2; have hfz10_3 := blk_frozen BK352.out 3; have hcz11_0 : w9.cell? ⟨gb353, 0, none⟩ = some (.int .i64 0) := (blk_cell BK353.out 0).trans rfl; have hcz11_1 : w9.cell? ⟨gb353, 1, none⟩ = some (.int .i64 0) := (blk_cell BK353.out 1).trans rfl; have hfz11_0 := blk_frozen BK353.out 0; have hfz11_1 := blk_frozen BK353.out 1))
      refine bodyPost_ret (results_cell_row rfl _ _ gb353 23 #[.int .i64 a0_0, .int .i64 a0_1] (0, 0) _ rfl (by (with_reducible repeat (first | refine blk_drewN ?_ _ | refine blk_drew ?_ | refine blk_alloc ?_ _)); refine blk_put (cs := #[.int .i64 a0_0, .int .i64 0]) ?_ 1 _ rfl; (with_reducible repeat (first | refine blk_drewN ?_ _ | refine blk_drew ?_ | refine blk_alloc ?_ _)); refine blk_put (cs := #[.int .i64 0, .int .i64 0]) ?_ 0 _ rfl; (with_reducible repeat (first | refine blk_drewN ?_ _ | refine blk_drew ?_ | refine blk_alloc ?_ _)); exact BK353.out) Try.underlying23 rfl (by kernel_rfl)) rfl ?_
      exact ⟨by first | rfl | (simp [errW_none, errW_some] <;> rfl) | (simp [*, errW_none, errW_some] <;> rfl), by repeat (first | (with_reducible first | exact HB.out | apply below_alloc | apply pw_below_drewN | apply below_drew1 | refine below_set ?_ GE352.out | refine below_set ?_ GE353.out) | exact HB.out)⟩
    · rw [if_neg c4] at H
      have c4b0 : ((l0_2.length : Int) == 0) = false := beq_eq_false_iff_ne.mpr c4
      have c4b1 : ((l0_2.length : Int) != 0) = true := bne_iff_ne.mpr c4
      have c4b2 : ¬ (l0_2 = []) := fun h_ => c4 (by rw [h_]; rfl)
      replace H := Option.bind_eq_some_iff.mp H
      obtain ⟨t355, A120, H⟩ := H
      replace H : (if 0 ≤ (wrap64 ((l0_2.length : Int) - 1)) then (if (wrap64 ((l0_2.length : Int) - 1)) < (l0_2.length : Int) then (some (t355, (rd_T33 l0_2 (wrap64 ((l0_2.length : Int) - 1))).f0)) else (none)) else (none)) = some (r1, r2) := H
      have A12 := Aside0.mk A120
      clear A120
      obtain ⟨ji13, hji13⟩ : ∃ j_ : Int, (wrap64 ((l0_2.length : Int) - 1)) = j_ := ⟨_, rfl⟩
      replace H : (if 0 ≤ (ji13) then (if (ji13) < (l0_2.length : Int) then (some (t355, (rd_T33 l0_2 (ji13)).f0)) else (none)) else (none)) = some (r1, r2) := by first | (rw [hji13] at H; exact H) | (simp only [hji13] at H ⊢; exact H)
      (try rw [hji13] at A2)
      (try rw [hji13] at A12)
      have hji13w : (IntKind.i64.wrap ((l0_2.length : Int) - 1)) = ji13 := (i64_w _).trans hji13
      by_cases c14 : 0 ≤ (ji13)
      · rw [if_pos c14] at H
        have c14b0 : decide (0 ≤ (ji13)) = true := decide_eq_true c14
        clear c14
        by_cases c15 : (ji13) < (l0_2.length : Int)
        · rw [if_pos c15] at H
          have c15b0 : decide ((ji13) < (l0_2.length : Int)) = true := decide_eq_true c15
          clear c15
          simp only [Option.some.injEq, Prod.mk.injEq] at H
          obtain ⟨rfl, rfl⟩ := H
          go_enter Try.func33, Try.ntmps33
          try go_wp2_with (first | ((with_reducible refine gate_dst (N := 1) rfl ?_); refine box_event ?hg (N := 1) ?hd (cs := #[.int .i64 a0_0, .int .i64 a0_1, .slice A0_2 l0_2.length c0_2, .int .i64 a0_3]) (t := 26) ?hr ?_; (case hd => rfl); (case hg => rfl); (case hr => first | (go_simp; done) | (go_simp; rfl)); intro gb352 hg w16 hbox hb; have n0_ := Aside0.mk (below_step (by repeat (first | (with_reducible first | exact HB.out | apply below_alloc | apply pw_below_drewN | apply below_drew1) | exact HB.out)) hb); have n1_ := Aside0.mk (hbox); have n2_ := Aside0.mk ((by rw [hg]; exact (below_size (by repeat (first | (with_reducible first | exact HB.out | apply below_alloc | apply pw_below_drewN | apply below_drew1) | exact HB.out))) : w.heap.size ≤ gb352)); have n3_ := Aside0.mk ((by rw [hg]; exact (below_size (by repeat (first | (with_reducible first | exact HB.out | apply below_alloc | apply pw_below_drewN | apply below_drew1) | exact HB.out))) : w.heap.size ≤ gb352)); clear HB; have HB := n0_; have BK352 := n1_; have GW352 := n2_; have GE352 := n3_; clear n0_ n1_ n2_ n3_; clear hb hbox hg) | ((with_reducible refine gate_dst (N := 2) rfl ?_); refine box_event ?hg (N := 2) ?hd (cs := #[.int .i64 0, .int .i64 0]) (t := 23) ?hr ?_; (case hd => rfl); (case hg => rfl); (case hr => first | (go_simp; done) | (go_simp; rfl)); intro gb353 hg w17 hbox hb; have n0_ := Aside0.mk (blk_below (g := gb352) (o := .cells #[.int .i64 a0_0, .int .i64 a0_1, .slice A0_2 l0_2.length c0_2, .int .i64 a0_3] 26 (0, 0)) (by (with_reducible repeat (first | refine blk_drewN ?_ _ | refine blk_drew ?_ | refine blk_alloc ?_ _)); exact BK352.out) hb); have n1_ := Aside0.mk (below_step (by repeat (first | (with_reducible first | exact HB.out | apply below_alloc | apply pw_below_drewN | apply below_drew1 | refine below_set ?_ GE352.out) | exact HB.out)) hb); have n2_ := Aside0.mk (hbox); have n3_ := Aside0.mk ((by rw [hg]; exact (below_size (by repeat (first | (with_reducible first | exact HB.out | apply below_alloc | apply pw_below_drewN | apply below_drew1 | refine below_set ?_ GE352.out) | exact HB.out))) : w.heap.size ≤ gb353)); have n4_ := Aside0.mk ((by rw [hg]; exact (below_size (by repeat (first | (with_reducible first | exact HB.out | apply below_alloc | apply pw_below_drewN | apply below_drew1 | refine below_set ?_ GE352.out) | exact HB.out))) : w.heap.size ≤ gb353)); have n5_ := Aside0.mk ((by rw [hg]; exact Nat.ne_of_lt (blk_lt (g := gb352) (o := .cells #[.int .i64 a0_0, .int .i64 a0_1, .slice A0_2 l0_2.length c0_2, .int .i64 a0_3] 26 (0, 0)) (by (with_reducible repeat (first | refine blk_drewN ?_ _ | refine blk_drew ?_ | refine blk_alloc ?_ _)); exact BK352.out)) : gb352 ≠ gb353)); have n6_ := Aside0.mk ((by rw [hg]; exact Nat.ne_of_gt (blk_lt (g := gb352) (o := .cells #[.int .i64 a0_0, .int .i64 a0_1, .slice A0_2 l0_2.length c0_2, .int .i64 a0_3] 26 (0, 0)) (by (with_reducible repeat (first | refine blk_drewN ?_ _ | refine blk_drew ?_ | refine blk_alloc ?_ _)); exact BK352.out)) : gb353 ≠ gb352)); clear BK352; clear HB; have BK352 := n0_; have HB := n1_; have BK353 := n2_; have GW353 := n3_; have GE353 := n4_; have NB352_353 := n5_; have NB353_352 := n6_; clear n0_ n1_ n2_ n3_ n4_ n5_ n6_; clear hb hbox hg; have hnb18 := NB352_353.out; have hnc18 := NB353_352.out; have hcz19_0 : w17.cell? ⟨gb352, 0, none⟩ = some (.int .i64 a0_0) := (blk_cell BK352.out 0).trans rfl; have hcz19_1 : w17.cell? ⟨gb352, 1, none⟩ = some (.int .i64 a0_1) := (blk_cell BK352.out 1).trans rfl; have hcz19_2 : w17.cell? ⟨gb352, 2, none⟩ = some (.slice A0_2 l0_2.length c0_2) := (blk_cell BK352.out 2).trans rfl; have hcz19_3 : w17.cell? ⟨gb352, 3, none⟩ = some (.int .i64 a0_3) := (blk_cell BK352.out 3).trans rfl; have hfz19_0 := blk_frozen BK352.out 0; have hfz19_1 := blk_frozen BK352.out 1; have hfz19_2 := blk_frozen BK352.out 2; have hfz19_3 := blk_frozen BK352.out 3) | ((with_reducible refine gate_callee (f := 31) rfl ?_); refine goesL_ (some 4) rfl rfl Try.func31 (by kernel_rfl) rfl #[.agg #[.int .i64 a0_0, .int .i64 a0_1, .slice A0_2 l0_2.length c0_2, .int .i64 a0_3]] rfl (by (try simp only [List.map_toArray, List.map_cons, List.map_nil]); first | done | rfl | (simp only [List.length_drop, List.length_take]; rfl)) ?_; (with_reducible refine (rialtoref08_Check.calls k a0_0 a0_1 _ _ l0_2 a0_3 t354 _ ?side1 ?side2 A2.out).mono ?_); (case side1 => repeat (first | exact (Kd.C_below HR0_2.out HB.out) | (with_reducible refine Kd.C_alloc ?_ _) | (with_reducible refine Kd.C_drewN ?_ _) | (with_reducible refine Kd.C_drew ?_))); (case side2 => exact HC0_2.out); rintro e w20 ⟨rfl, hb⟩; refine ⟨_, rfl, ?_⟩; have n0_ := Aside0.mk (blk_below (g := gb352) (o := .cells #[.int .i64 a0_0, .int .i64 a0_1, .slice A0_2 l0_2.length c0_2, .int .i64 a0_3] 26 (0, 0)) (by (with_reducible repeat (first | refine blk_drewN ?_ _ | refine blk_drew ?_ | refine blk_alloc ?_ _)); exact BK352.out) hb); have n1_ := Aside0.mk (blk_below (g := gb353) (o := .cells #[.int .i64 0, .int .i64 0] 23 (0, 0)) (by (with_reducible repeat (first | refine blk_drewN ?_ _ | refine blk_drew ?_ | refine blk_alloc ?_ _)); exact BK353.out) hb); have n2_ := Aside0.mk (below_step (by repeat (first | (with_reducible first | exact HB.out | apply below_alloc | apply pw_below_drewN | apply below_drew1 | refine below_set ?_ GE352.out | refine below_set ?_ GE353.out) | exact HB.out)) hb); clear BK352; clear BK353; clear HB; have BK352 := n0_; have BK353 := n1_; have HB := n2_; clear n0_ n1_ n2_; (try clear hb); (try clear hb2); (try clear hk); (try clear hi); have hcz21_0 : w20.cell? ⟨gb352, 0, none⟩ = some (.int .i64 a0_0) := (blk_cell BK352.out 0).trans rfl; have hcz21_1 : w20.cell? ⟨gb352, 1, none⟩ = some (.int .i64 a0_1) := (blk_cell BK352.out 1).trans rfl; have hcz21_2 : w20.cell? ⟨gb352, 2, none⟩ = some (.slice A0_2 l0_2.length c0_2) := (blk_cell BK352.out 2).trans rfl; have hcz21_3 : w20.cell? ⟨gb352, 3, none⟩ = some (.int .i64 a0_3) := (blk_cell BK352.out 3).trans rfl; have hfz21_0 := blk_frozen BK352.out 0; have hfz21_1 := blk_frozen BK352.out 1; have hfz21_2 := blk_frozen BK352.out 2; have hfz21_3 := blk_frozen BK352.out 3))
          have n0_ := Aside0.mk (blk_drew BK352.out)
          have n1_ := Aside0.mk (blk_drew BK353.out)
          have n2_ := Aside0.mk (below_drew1 HB.out)
          clear BK352
          clear BK353
          clear HB
          have BK352 := n0_
          have BK353 := n1_
          have HB := n2_
          clear n0_ n1_ n2_
          have p356 : 0 ≤ ((ji13) : Int) := of_decide_eq_true (by first | (with_reducible assumption) | assumption)
          have q356 : (ji13) < (l0_2.length : Int) := of_decide_eq_true (by first | (with_reducible assumption) | assumption)
          obtain ⟨ad356, e356, hx356_0, hx356_1, hx356_2⟩ := at_T33 HR0_2.out (ji13) p356 q356
          have hw356_2 := hx356_2
          have hw356_1 := hx356_1
          have hw356_0 := hx356_0
          cases e356
          replace hx356_0 := (HB.out.cell (World.block_lt_of_cell? w _ hx356_0)).trans hx356_0
          replace hx356_1 := (HB.out.cell (World.block_lt_of_cell? w _ hx356_1)).trans hx356_1
          replace hx356_2 := (HB.out.cell (World.block_lt_of_cell? w _ hx356_2)).trans hx356_2
          replace p356 := eq_true p356
          replace q356 := eq_true q356
          refine start_ (n := 13) (S := fun w' => w'.cell? ⟨gb352, 0, none⟩ = some (.int .i64 a0_0) ∧ w'.cell? ⟨gb352, 1, none⟩ = some (.int .i64 a0_1) ∧ w'.cell? ⟨gb352, 2, none⟩ = some (.slice (some ad356) l0_2.length c0_2) ∧ w'.cell? ⟨gb352, 3, none⟩ = some (.int .i64 a0_3) ∧ w'.cell? (ad356.add (((ji13)).toNat * 3)) = some (.int .i64 ((rd_T33 l0_2 (ji13)).f0)) ∧ w'.cell? ⟨(ad356.add (((ji13)).toNat * 3)).block, (ad356.add (((ji13)).toNat * 3)).off + 1, none⟩ = some (.int .i64 ((rd_T33 l0_2 (ji13)).f1)) ∧ w'.cell? ⟨(ad356.add (((ji13)).toNat * 3)).block, (ad356.add (((ji13)).toNat * 3)).off + 2, none⟩ = some (.string ((rd_T33 l0_2 (ji13)).f2))) (ds := []) #[false, false, false, false, false, false, false, false, false, false, false, false, false] (by kernel_rfl) rfl rfl ⟨(blk_cell BK352.out 0).trans rfl, (blk_cell BK352.out 1).trans rfl, (blk_cell BK352.out 2).trans rfl, (blk_cell BK352.out 3).trans rfl, ((HB.out.cell (World.block_lt_of_cell? w _ hw356_0)).trans hw356_0), ((HB.out.cell (World.block_lt_of_cell? w _ hw356_1)).trans hw356_1), ((HB.out.cell (World.block_lt_of_cell? w _ hw356_2)).trans hw356_2)⟩ (fun hHeld => ?_); refine with_tabW rialtoref08_Last.tab5 rialtoref08_Last.bits5 (fun HT_ HW_ => ?_)
          generalize w20.drew = w22 at BK352 BK353 HB hx356_0 hx356_1 hx356_2 hHeld ⊢
          refine stepP HT_ 2 (some 15) ?_
          refine stepP HT_ 4 (some 17) ?_
          refine stepT7 HT_ HW_ 0 (some 13) hHeld ?_
          refine stepT7 HT_ HW_ 3 (some 16) hHeld ?_
          refine stepT7 HT_ HW_ 5 (some 18) hHeld ?_
          refine stepP HT_ 6 (some 19) ?_
          refine stepP HT_ 7 (some 20) ?_
          refine stepP HT_ 8 (some 21) ?_
          refine stepP HT_ 9 (some 22) ?_
          refine stepT7 HT_ HW_ 10 (some 23) hHeld ?_
          refine one_ (i := 1) (N := some 14) #[true, true, true, true, true, true, true, true, true, true, true, false, false] rfl rfl (one_of HT_.out (by kernel_rfl)) (by decide) (fun K hK => ?_)
          refine goes_ Try.func47 (by kernel_rfl) rfl #[.agg #[.int .i64 a0_0, .int .i64 a0_1, .slice (some ad356) l0_2.length c0_2, .int .i64 a0_3]] (by rfl) rfl rfl (by (try simp only [List.map_toArray, List.map_cons, List.map_nil]); first | done | rfl | (simp only [List.length_drop, List.length_take]; rfl)) ?_
          with_reducible refine (rialtoref08_end.calls a0_0 a0_1 _ _ l0_2 a0_3 t355 _ ?side1 ?side2 A12.out).mono ?_
          (case side1 => repeat (first | exact (Kd.C_below HR0_2.out HB.out) | (with_reducible refine Kd.C_alloc ?_ _) | (with_reducible refine Kd.C_drewN ?_ _) | (with_reducible refine Kd.C_drew ?_)))
          (case side2 => exact HC0_2.out)
          rintro e w23 ⟨rfl, hb⟩
          refine ⟨_, rfl, ?_⟩
          have n0_ := Aside0.mk (blk_below (g := gb352) (o := .cells #[.int .i64 a0_0, .int .i64 a0_1, .slice (some ad356) l0_2.length c0_2, .int .i64 a0_3] 26 (0, 0)) (by (with_reducible repeat (first | refine blk_drewN ?_ _ | refine blk_drew ?_ | refine blk_alloc ?_ _)); exact BK352.out) hb)
          have n1_ := Aside0.mk (blk_below (g := gb353) (o := .cells #[.int .i64 0, .int .i64 0] 23 (0, 0)) (by (with_reducible repeat (first | refine blk_drewN ?_ _ | refine blk_drew ?_ | refine blk_alloc ?_ _)); exact BK353.out) hb)
          have n2_ := Aside0.mk (below_step (by repeat (first | (with_reducible first | exact HB.out | apply below_alloc | apply pw_below_drewN | apply below_drew1 | refine below_set ?_ GE352.out | refine below_set ?_ GE353.out) | exact HB.out)) hb)
          clear BK352
          clear BK353
          clear HB
          have BK352 := n0_
          have BK353 := n1_
          have HB := n2_
          clear n0_ n1_ n2_
          (try clear hb)
          (try clear hb2)
          (try clear hk)
          (try clear hi)
          refine hK.out _ _ ⟨(blk_cell BK352.out 0).trans rfl, (blk_cell BK352.out 1).trans rfl, (blk_cell BK352.out 2).trans rfl, (blk_cell BK352.out 3).trans rfl, ((HB.out.cell (World.block_lt_of_cell? w _ hw356_0)).trans hw356_0), ((HB.out.cell (World.block_lt_of_cell? w _ hw356_1)).trans hw356_1), ((HB.out.cell (World.block_lt_of_cell? w _ hw356_2)).trans hw356_2)⟩ (fun hHeld => ?_)
          clear hK K
          refine norm_ (a' := ?_) ?_ ?_
          rotate_left
          · show Act.put _ (some 14) _ = _
            simp only [Act.put, List.setIfInBounds_toArray, List.set_cons_zero, List.set_cons_succ, i64_w, i32_w]
            rfl
          refine stepP HT_ 11 (some 24) ?_
          refine one_ (i := 12) (N := none) #[true, true, true, true, true, true, true, true, true, true, true, true, true] rfl rfl (one_of HT_.out (by kernel_rfl)) (by decide) (fun K hK => ?_)
          have hs24 : w23.cell? ⟨gb353, 0, none⟩ = some (.int .i64 0) := (blk_cell BK353.out 0).trans rfl
          have hfs24 := blk_frozen BK353.out 0
          have hns24_0 := NB352_353.out
          have hms24_0 := NB353_352.out
          have hs25 : w23.cell? ⟨gb353, 1, none⟩ = some (.int .i64 0) := (blk_cell BK353.out 1).trans rfl
          have hfs25 := blk_frozen BK353.out 1
          have hns25_0 := NB352_353.out
          have hms25_0 := NB353_352.out
          refine skip_ (w1 := ?_) (by rfl) rfl ?_ ?_
          rotate_left
          · go_simp
            rfl
          refine hK.out _ _ ⟨((cell_far (p := ⟨gb353, _, none⟩) NB352_353.out _).trans (((cell_far (p := ⟨gb353, _, none⟩) NB352_353.out _).trans (hHeld.1)))), ((cell_far (p := ⟨gb353, _, none⟩) NB352_353.out _).trans (((cell_far (p := ⟨gb353, _, none⟩) NB352_353.out _).trans (hHeld.2.1)))), ((cell_far (p := ⟨gb353, _, none⟩) NB352_353.out _).trans (((cell_far (p := ⟨gb353, _, none⟩) NB352_353.out _).trans (hHeld.2.2.1)))), ((cell_far (p := ⟨gb353, _, none⟩) NB352_353.out _).trans (((cell_far (p := ⟨gb353, _, none⟩) NB352_353.out _).trans (hHeld.2.2.2.1)))), ((cell_far (p := ⟨gb353, _, none⟩) (by first | exact Nat.ne_of_lt (Nat.lt_of_lt_of_le (by have := World.block_lt_of_cell? _ _ hw356_0; first | rwa [add_block] at this | exact this) GW353.out) | (rw [add_block]; exact Nat.ne_of_lt (Nat.lt_of_lt_of_le (by have := World.block_lt_of_cell? _ _ hw356_0; first | rwa [add_block] at this | exact this) GW353.out)) | (show (Addr.add _ _).block ≠ _; rw [add_block]; exact Nat.ne_of_lt (Nat.lt_of_lt_of_le (by have := World.block_lt_of_cell? _ _ hw356_0; first | rwa [add_block] at this | exact this) GW353.out)) | (dsimp only; exact Nat.ne_of_lt (Nat.lt_of_lt_of_le (by have := World.block_lt_of_cell? _ _ hw356_0; first | rwa [add_block] at this | exact this) GW353.out))) _).trans (((cell_far (p := ⟨gb353, _, none⟩) (by first | exact Nat.ne_of_lt (Nat.lt_of_lt_of_le (by have := World.block_lt_of_cell? _ _ hw356_0; first | rwa [add_block] at this | exact this) GW353.out) | (rw [add_block]; exact Nat.ne_of_lt (Nat.lt_of_lt_of_le (by have := World.block_lt_of_cell? _ _ hw356_0; first | rwa [add_block] at this | exact this) GW353.out)) | (show (Addr.add _ _).block ≠ _; rw [add_block]; exact Nat.ne_of_lt (Nat.lt_of_lt_of_le (by have := World.block_lt_of_cell? _ _ hw356_0; first | rwa [add_block] at this | exact this) GW353.out)) | (dsimp only; exact Nat.ne_of_lt (Nat.lt_of_lt_of_le (by have := World.block_lt_of_cell? _ _ hw356_0; first | rwa [add_block] at this | exact this) GW353.out))) _).trans (hHeld.2.2.2.2.1)))), ((cell_far (p := ⟨gb353, _, none⟩) (by first | exact Nat.ne_of_lt (Nat.lt_of_lt_of_le (by have := World.block_lt_of_cell? _ _ hw356_1; first | rwa [add_block] at this | exact this) GW353.out) | (rw [add_block]; exact Nat.ne_of_lt (Nat.lt_of_lt_of_le (by have := World.block_lt_of_cell? _ _ hw356_1; first | rwa [add_block] at this | exact this) GW353.out)) | (show (Addr.add _ _).block ≠ _; rw [add_block]; exact Nat.ne_of_lt (Nat.lt_of_lt_of_le (by have := World.block_lt_of_cell? _ _ hw356_1; first | rwa [add_block] at this | exact this) GW353.out)) | (dsimp only; exact Nat.ne_of_lt (Nat.lt_of_lt_of_le (by have := World.block_lt_of_cell? _ _ hw356_1; first | rwa [add_block] at this | exact this) GW353.out))) _).trans (((cell_far (p := ⟨gb353, _, none⟩) (by first | exact Nat.ne_of_lt (Nat.lt_of_lt_of_le (by have := World.block_lt_of_cell? _ _ hw356_1; first | rwa [add_block] at this | exact this) GW353.out) | (rw [add_block]; exact Nat.ne_of_lt (Nat.lt_of_lt_of_le (by have := World.block_lt_of_cell? _ _ hw356_1; first | rwa [add_block] at this | exact this) GW353.out)) | (show (Addr.add _ _).block ≠ _; rw [add_block]; exact Nat.ne_of_lt (Nat.lt_of_lt_of_le (by have := World.block_lt_of_cell? _ _ hw356_1; first | rwa [add_block] at this | exact this) GW353.out)) | (dsimp only; exact Nat.ne_of_lt (Nat.lt_of_lt_of_le (by have := World.block_lt_of_cell? _ _ hw356_1; first | rwa [add_block] at this | exact this) GW353.out))) _).trans (hHeld.2.2.2.2.2.1)))), ((cell_far (p := ⟨gb353, _, none⟩) (by first | exact Nat.ne_of_lt (Nat.lt_of_lt_of_le (by have := World.block_lt_of_cell? _ _ hw356_2; first | rwa [add_block] at this | exact this) GW353.out) | (rw [add_block]; exact Nat.ne_of_lt (Nat.lt_of_lt_of_le (by have := World.block_lt_of_cell? _ _ hw356_2; first | rwa [add_block] at this | exact this) GW353.out)) | (show (Addr.add _ _).block ≠ _; rw [add_block]; exact Nat.ne_of_lt (Nat.lt_of_lt_of_le (by have := World.block_lt_of_cell? _ _ hw356_2; first | rwa [add_block] at this | exact this) GW353.out)) | (dsimp only; exact Nat.ne_of_lt (Nat.lt_of_lt_of_le (by have := World.block_lt_of_cell? _ _ hw356_2; first | rwa [add_block] at this | exact this) GW353.out))) _).trans (((cell_far (p := ⟨gb353, _, none⟩) (by first | exact Nat.ne_of_lt (Nat.lt_of_lt_of_le (by have := World.block_lt_of_cell? _ _ hw356_2; first | rwa [add_block] at this | exact this) GW353.out) | (rw [add_block]; exact Nat.ne_of_lt (Nat.lt_of_lt_of_le (by have := World.block_lt_of_cell? _ _ hw356_2; first | rwa [add_block] at this | exact this) GW353.out)) | (show (Addr.add _ _).block ≠ _; rw [add_block]; exact Nat.ne_of_lt (Nat.lt_of_lt_of_le (by have := World.block_lt_of_cell? _ _ hw356_2; first | rwa [add_block] at this | exact this) GW353.out)) | (dsimp only; exact Nat.ne_of_lt (Nat.lt_of_lt_of_le (by have := World.block_lt_of_cell? _ _ hw356_2; first | rwa [add_block] at this | exact this) GW353.out))) _).trans (hHeld.2.2.2.2.2.2))))⟩ (fun hHeld => ?_)
          clear hK K
          refine done_ (done_of HT_.out (by kernel_rfl)) ?_
          try go_wp2
          refine bodyPost_ret (results_cell_row rfl _ _ gb353 23 #[.int .i64 t355, .int .i64 ((rd_T33 l0_2 (ji13)).f0)] (0, 0) _ rfl (by (with_reducible repeat (first | refine blk_drewN ?_ _ | refine blk_drew ?_ | refine blk_alloc ?_ _)); refine blk_put (cs := #[.int .i64 t355, .int .i64 0]) ?_ 1 _ rfl; (with_reducible repeat (first | refine blk_drewN ?_ _ | refine blk_drew ?_ | refine blk_alloc ?_ _)); refine blk_put (cs := #[.int .i64 0, .int .i64 0]) ?_ 0 _ rfl; (with_reducible repeat (first | refine blk_drewN ?_ _ | refine blk_drew ?_ | refine blk_alloc ?_ _)); exact BK353.out) Try.underlying23 rfl (by kernel_rfl)) rfl ?_
          exact ⟨by first | rfl | (simp [errW_none, errW_some] <;> rfl) | (simp only [← hji13]; first | rfl | (simp [errW_none, errW_some] <;> rfl)) | (simp [*, errW_none, errW_some] <;> rfl), by repeat (first | (with_reducible first | exact HB.out | apply below_alloc | apply pw_below_drewN | apply below_drew1 | refine below_set ?_ GE352.out | refine below_set ?_ GE353.out) | exact HB.out)⟩
        · rw [if_neg c15] at H
          exact absurd H (by simp)
      · rw [if_neg c14] at H
        exact absurd H (by simp)
  · rw [if_neg c3] at H
    have c3b0 : (t354 == 0) = false := beq_eq_false_iff_ne.mpr c3
    have c3b1 : (t354 != 0) = true := bne_iff_ne.mpr c3
    simp only [Option.some.injEq, Prod.mk.injEq] at H
    obtain ⟨rfl, rfl⟩ := H
    go_enter Try.func33, Try.ntmps33
    go_wp2_with (first | ((with_reducible refine gate_dst (N := 1) rfl ?_); refine box_event ?hg (N := 1) ?hd (cs := #[.int .i64 a0_0, .int .i64 a0_1, .slice A0_2 l0_2.length c0_2, .int .i64 a0_3]) (t := 26) ?hr ?_; (case hd => rfl); (case hg => rfl); (case hr => first | (go_simp; done) | (go_simp; rfl)); intro gb352 hg w26 hbox hb; have n0_ := Aside0.mk (below_step (by repeat (first | (with_reducible first | exact HB.out | apply below_alloc | apply pw_below_drewN | apply below_drew1) | exact HB.out)) hb); have n1_ := Aside0.mk (hbox); have n2_ := Aside0.mk ((by rw [hg]; exact (below_size (by repeat (first | (with_reducible first | exact HB.out | apply below_alloc | apply pw_below_drewN | apply below_drew1) | exact HB.out))) : w.heap.size ≤ gb352)); have n3_ := Aside0.mk ((by rw [hg]; exact (below_size (by repeat (first | (with_reducible first | exact HB.out | apply below_alloc | apply pw_below_drewN | apply below_drew1) | exact HB.out))) : w.heap.size ≤ gb352)); clear HB; have HB := n0_; have BK352 := n1_; have GW352 := n2_; have GE352 := n3_; clear n0_ n1_ n2_ n3_; clear hb hbox hg) | ((with_reducible refine gate_dst (N := 2) rfl ?_); refine box_event ?hg (N := 2) ?hd (cs := #[.int .i64 0, .int .i64 0]) (t := 23) ?hr ?_; (case hd => rfl); (case hg => rfl); (case hr => first | (go_simp; done) | (go_simp; rfl)); intro gb353 hg w27 hbox hb; have n0_ := Aside0.mk (blk_below (g := gb352) (o := .cells #[.int .i64 a0_0, .int .i64 a0_1, .slice A0_2 l0_2.length c0_2, .int .i64 a0_3] 26 (0, 0)) (by (with_reducible repeat (first | refine blk_drewN ?_ _ | refine blk_drew ?_ | refine blk_alloc ?_ _)); exact BK352.out) hb); have n1_ := Aside0.mk (below_step (by repeat (first | (with_reducible first | exact HB.out | apply below_alloc | apply pw_below_drewN | apply below_drew1 | refine below_set ?_ GE352.out) | exact HB.out)) hb); have n2_ := Aside0.mk (hbox); have n3_ := Aside0.mk ((by rw [hg]; exact (below_size (by repeat (first | (with_reducible first | exact HB.out | apply below_alloc | apply pw_below_drewN | apply below_drew1 | refine below_set ?_ GE352.out) | exact HB.out))) : w.heap.size ≤ gb353)); have n4_ := Aside0.mk ((by rw [hg]; exact (below_size (by repeat (first | (with_reducible first | exact HB.out | apply below_alloc | apply pw_below_drewN | apply below_drew1 | refine below_set ?_ GE352.out) | exact HB.out))) : w.heap.size ≤ gb353)); have n5_ := Aside0.mk ((by rw [hg]; exact Nat.ne_of_lt (blk_lt (g := gb352) (o := .cells #[.int .i64 a0_0, .int .i64 a0_1, .slice A0_2 l0_2.length c0_2, .int .i64 a0_3] 26 (0, 0)) (by (with_reducible repeat (first | refine blk_drewN ?_ _ | refine blk_drew ?_ | refine blk_alloc ?_ _)); exact BK352.out)) : gb352 ≠ gb353)); have n6_ := Aside0.mk ((by rw [hg]; exact Nat.ne_of_gt (blk_lt (g := gb352) (o := .cells #[.int .i64 a0_0, .int .i64 a0_1, .slice A0_2 l0_2.length c0_2, .int .i64 a0_3] 26 (0, 0)) (by (with_reducible repeat (first | refine blk_drewN ?_ _ | refine blk_drew ?_ | refine blk_alloc ?_ _)); exact BK352.out)) : gb353 ≠ gb352)); clear BK352; clear HB; have BK352 := n0_; have HB := n1_; have BK353 := n2_; have GW353 := n3_; have GE353 := n4_; have NB352_353 := n5_; have NB353_352 := n6_; clear n0_ n1_ n2_ n3_ n4_ n5_ n6_; clear hb hbox hg; have hnb28 := NB352_353.out; have hnc28 := NB353_352.out; have hcz29_0 : w27.cell? ⟨gb352, 0, none⟩ = some (.int .i64 a0_0) := (blk_cell BK352.out 0).trans rfl; have hcz29_1 : w27.cell? ⟨gb352, 1, none⟩ = some (.int .i64 a0_1) := (blk_cell BK352.out 1).trans rfl; have hcz29_2 : w27.cell? ⟨gb352, 2, none⟩ = some (.slice A0_2 l0_2.length c0_2) := (blk_cell BK352.out 2).trans rfl; have hcz29_3 : w27.cell? ⟨gb352, 3, none⟩ = some (.int .i64 a0_3) := (blk_cell BK352.out 3).trans rfl; have hfz29_0 := blk_frozen BK352.out 0; have hfz29_1 := blk_frozen BK352.out 1; have hfz29_2 := blk_frozen BK352.out 2; have hfz29_3 := blk_frozen BK352.out 3) | ((with_reducible refine gate_callee (f := 31) rfl ?_); refine goesL_ (some 4) rfl rfl Try.func31 (by kernel_rfl) rfl #[.agg #[.int .i64 a0_0, .int .i64 a0_1, .slice A0_2 l0_2.length c0_2, .int .i64 a0_3]] rfl (by (try simp only [List.map_toArray, List.map_cons, List.map_nil]); first | done | rfl | (simp only [List.length_drop, List.length_take]; rfl)) ?_; (with_reducible refine (rialtoref08_Check.calls k a0_0 a0_1 _ _ l0_2 a0_3 t354 _ ?side1 ?side2 A2.out).mono ?_); (case side1 => repeat (first | exact (Kd.C_below HR0_2.out HB.out) | (with_reducible refine Kd.C_alloc ?_ _) | (with_reducible refine Kd.C_drewN ?_ _) | (with_reducible refine Kd.C_drew ?_))); (case side2 => exact HC0_2.out); rintro e w30 ⟨rfl, hb⟩; refine ⟨_, rfl, ?_⟩; have n0_ := Aside0.mk (blk_below (g := gb352) (o := .cells #[.int .i64 a0_0, .int .i64 a0_1, .slice A0_2 l0_2.length c0_2, .int .i64 a0_3] 26 (0, 0)) (by (with_reducible repeat (first | refine blk_drewN ?_ _ | refine blk_drew ?_ | refine blk_alloc ?_ _)); exact BK352.out) hb); have n1_ := Aside0.mk (blk_below (g := gb353) (o := .cells #[.int .i64 0, .int .i64 0] 23 (0, 0)) (by (with_reducible repeat (first | refine blk_drewN ?_ _ | refine blk_drew ?_ | refine blk_alloc ?_ _)); exact BK353.out) hb); have n2_ := Aside0.mk (below_step (by repeat (first | (with_reducible first | exact HB.out | apply below_alloc | apply pw_below_drewN | apply below_drew1 | refine below_set ?_ GE352.out | refine below_set ?_ GE353.out) | exact HB.out)) hb); clear BK352; clear BK353; clear HB; have BK352 := n0_; have BK353 := n1_; have HB := n2_; clear n0_ n1_ n2_; (try clear hb); (try clear hb2); (try clear hk); (try clear hi); have hcz31_0 : w30.cell? ⟨gb353, 0, none⟩ = some (.int .i64 0) := (blk_cell BK353.out 0).trans rfl; have hcz31_1 : w30.cell? ⟨gb353, 1, none⟩ = some (.int .i64 0) := (blk_cell BK353.out 1).trans rfl; have hfz31_0 := blk_frozen BK353.out 0; have hfz31_1 := blk_frozen BK353.out 1))
    refine bodyPost_ret (results_cell_row rfl _ _ gb353 23 #[.int .i64 0, .int .i64 0] (0, 0) _ rfl (by (with_reducible repeat (first | refine blk_drewN ?_ _ | refine blk_drew ?_ | refine blk_alloc ?_ _)); refine blk_put (cs := #[.int .i64 0, .int .i64 0]) ?_ 1 _ rfl; (with_reducible repeat (first | refine blk_drewN ?_ _ | refine blk_drew ?_ | refine blk_alloc ?_ _)); refine blk_put (cs := #[.int .i64 0, .int .i64 0]) ?_ 0 _ rfl; (with_reducible repeat (first | refine blk_drewN ?_ _ | refine blk_drew ?_ | refine blk_alloc ?_ _)); exact BK353.out) Try.underlying23 rfl (by kernel_rfl)) rfl ?_
    exact ⟨by first | rfl | (simp [errW_none, errW_some] <;> rfl) | (simp [*, errW_none, errW_some] <;> rfl), by repeat (first | (with_reducible first | exact HB.out | apply below_alloc | apply pw_below_drewN | apply below_drew1 | refine below_set ?_ GE352.out | refine below_set ?_ GE353.out) | exact HB.out)⟩

end Go.Proofs.Ytiebeiloooblpaa.E
end
section
-- written by myprint.py, a program of this session over the kit's print.py
namespace Go.Proofs.Ytiebeiloooblpaa.E
open Go.RowKit Go.Proofs.YtiebeiloooblpaaW.PrintWords Go.Proofs.YtiebeiloooblpaaW.PrintLast Go.Proofs.YtiebeiloooblpaaW.PrintMore
attribute [local go_sem] max2_int min2_int max_two min_two max_three min_three max_four min_four   -- for this text's walks alone
set_option linter.unusedVariables false
set_option linter.unusedSimpArgs false

/-! ### rialtoref08_From: function 34 -/
mutual
def rialtoref08_From.j0 : Nat → Int → Int → Bool → Int → Int → List (S33) → Int → Option ((List (S33)))
  | 0, _, _, _, _, _, _, _ => none
  | k + 1, x1, x2, x28, x358000, x358001, x358002, x358003 => if x28 = true then (some ([] : List (S33))) else (rialtoref08_From.l0 k x2 ([] : List (S33)) x1 x358000 x358001 x358002 x358003)
def rialtoref08_From.l0 : Nat → Int → List (S33) → Int → Int → Int → List (S33) → Int → Option ((List (S33)))
  | 0, _, _, _, _, _, _, _ => none
  | k + 1, x2, x7, x8, x358000, x358001, x358002, x358003 => (rialtoref08_end.f x358000 x358001 x358002 x358003).bind fun t360 => (if x8 ≤ t360 then (if (x7.length : Int) < x2 then (if 0 ≤ (wrap64 ((wrap64 (x8 - x358000)) - 1)) then (if (wrap64 ((wrap64 (x8 - x358000)) - 1)) < (x358002.length : Int) then (if x7.length < 4398046511104 then (rialtoref08_From.l0 k x2 (x7 ++ [(⟨(rd_T33 x358002 (wrap64 ((wrap64 (x8 - x358000)) - 1))).f0, (rd_T33 x358002 (wrap64 ((wrap64 (x8 - x358000)) - 1))).f1, (rd_T33 x358002 (wrap64 ((wrap64 (x8 - x358000)) - 1))).f2⟩ : S33)]) (wrap64 (x8 + 1)) x358000 x358001 x358002 x358003) else (none)) else (none)) else (none)) else (some x7)) else (some x7))
end
def rialtoref08_From.f (k : Nat) (a0_0 : Int) (a0_1 : Int) (l0_2 : List (S33)) (a0_3 : Int) (a1 : Int) (a2 : Int) : Option ((List (S33))) := (rialtoref08_Check.f k a0_0 a0_1 l0_2 a0_3).bind fun t358 => (if t358 = 0 then (if a1 ≤ a0_0 then (rialtoref08_From.j0 k a1 a2 true a0_0 a0_1 l0_2 a0_3) else ((rialtoref08_end.f a0_0 a0_1 l0_2 a0_3).bind fun t359 => (if a1 > t359 then (rialtoref08_From.j0 k a1 a2 true a0_0 a0_1 l0_2 a0_3) else (rialtoref08_From.j0 k a1 a2 (decide (a2 < 1)) a0_0 a0_1 l0_2 a0_3)))) else (rialtoref08_From.j0 k a1 a2 true a0_0 a0_1 l0_2 a0_3))
set_option maxHeartbeats 8000000 in
set_option maxRecDepth 100000 in
theorem rialtoref08_From.calls (k : Nat) (a0_0 : Int) (a0_1 : Int) (A0_2 : Option Addr) (c0_2 : Nat) (l0_2 : List (S33)) (a0_3 : Int) (a1 : Int) (a2 : Int) (r : List (S33)) (w : World) (hr0_2 : Kd.C k33 w A0_2 l0_2.length l0_2) (hc0_2 : l0_2.length ≤ c0_2) (h : rialtoref08_From.f k a0_0 a0_1 l0_2 a0_3 a1 a2 = some r) :
    Calls Try.prog 34 #[.agg #[.int .i64 a0_0, .int .i64 a0_1, .slice A0_2 l0_2.length c0_2, .int .i64 a0_3], .int .i64 a1, .int .i64 a2] w fun e w' => ∃ v0_ : Value, e = .returned (v0_) ∧ Kd.R k33 33 w' w.heap.size (fun _ => True) v0_ r ∧ Below w.heap.size w w' := by
  have hu26 := Try.underlying26
  have hu33 := Try.underlying33
  have HR0_2 := Aside0.mk hr0_2
  have HC0_2 := Aside0.mk hc0_2
  clear hr0_2 hc0_2
  have HB := Aside0.mk (Below.refl w.heap.size w)
  have H : ((rialtoref08_Check.f k a0_0 a0_1 l0_2 a0_3).bind fun t358 => (if t358 = 0 then (if a1 ≤ a0_0 then (rialtoref08_From.j0 k a1 a2 true a0_0 a0_1 l0_2 a0_3) else ((rialtoref08_end.f a0_0 a0_1 l0_2 a0_3).bind fun t359 => (if a1 > t359 then (rialtoref08_From.j0 k a1 a2 true a0_0 a0_1 l0_2 a0_3) else (rialtoref08_From.j0 k a1 a2 (decide (a2 < 1)) a0_0 a0_1 l0_2 a0_3)))) else (rialtoref08_From.j0 k a1 a2 true a0_0 a0_1 l0_2 a0_3))) = some r := h
  clear h
  have HC4 := Aside0.mk H
  clear H
  go_enter Try.func34, Try.ntmps34
  go_upto_region 1 with (first | ((with_reducible refine gate_dst (N := 3) rfl ?_); (try (refine gate_guard (by rfl) ?_; dsimp only)); refine box_event ?hg (N := 3) ?hd (cs := #[.int .i64 a0_0, .int .i64 a0_1, .slice A0_2 l0_2.length c0_2, .int .i64 a0_3]) (t := 26) ?hr ?_; (case hd => rfl); (case hg => rfl); (case hr => first | (go_simp; done) | (go_simp; rfl)); intro gb357 hg w5 hbox hb; have n0_ := Aside0.mk (below_step (by repeat (first | (with_reducible first | exact HB.out | apply below_alloc | apply pw_below_drewN | apply below_drew1) | exact HB.out)) hb); have n1_ := Aside0.mk (hbox); have n2_ := Aside0.mk ((by rw [hg]; exact (below_size (by repeat (first | (with_reducible first | exact HB.out | apply below_alloc | apply pw_below_drewN | apply below_drew1) | exact HB.out))) : w.heap.size ≤ gb357)); have n3_ := Aside0.mk ((by rw [hg]; exact (below_size (by repeat (first | (with_reducible first | exact HB.out | apply below_alloc | apply pw_below_drewN | apply below_drew1) | exact HB.out))) : w.heap.size ≤ gb357)); clear HB; have HB := n0_; have BK357 := n1_; have GW357 := n2_; have GE357 := n3_; clear n0_ n1_ n2_ n3_; clear hb hbox hg))
  (try simp only [Act.put, List.setIfInBounds_toArray, List.set_cons_zero, List.set_cons_succ])
  go_cut [28] (fun v28 wc => ∃ (kq : Nat) (x28_3 : Bool), v28 = .bool x28_3 ∧ Aside0 (rialtoref08_From.j0 kq a1 a2 x28_3 a0_0 a0_1 l0_2 a0_3 = some r) ∧ Aside0 (kq ≤ k) ∧ Aside0 (wc.heap[gb357]? = some (.cells #[.int .i64 a0_0, .int .i64 a0_1, (.slice A0_2 l0_2.length c0_2), .int .i64 a0_3] 26 (0, 0))) ∧ Aside0 (Below w.heap.size w wc))
  case first =>
    have H := HC4.out
    clear HC4
    replace H := Option.bind_eq_some_iff.mp H
    obtain ⟨t358, A60, H⟩ := H
    replace H : (if t358 = 0 then (if a1 ≤ a0_0 then (rialtoref08_From.j0 k a1 a2 true a0_0 a0_1 l0_2 a0_3) else ((rialtoref08_end.f a0_0 a0_1 l0_2 a0_3).bind fun t359 => (if a1 > t359 then (rialtoref08_From.j0 k a1 a2 true a0_0 a0_1 l0_2 a0_3) else (rialtoref08_From.j0 k a1 a2 (decide (a2 < 1)) a0_0 a0_1 l0_2 a0_3)))) else (rialtoref08_From.j0 k a1 a2 true a0_0 a0_1 l0_2 a0_3)) = some r := H
    have A6 := Aside0.mk A60
    clear A60
    by_cases c7 : t358 = 0
    focus
      rw [if_pos c7] at H
      have c7b0 : (t358 == 0) = true := beq_iff_eq.mpr c7
      have c7b1 : (t358 != 0) = false := bne_eq_false_iff_eq.mpr c7
      clear c7
      (first | rw [c7b0] | (simp only [i64_w, i32_w]; rw [c7b0]) | skip)
      by_cases c8 : a1 ≤ a0_0
      focus
        rw [if_pos c8] at H
        have c8b0 : decide (a1 ≤ a0_0) = true := decide_eq_true c8
        clear c8
        have H' := Aside0.mk H
        clear H
      rotate_left 1
      focus
        rw [if_neg c8] at H
        have c8b0 : decide (a1 ≤ a0_0) = false := decide_eq_false c8
        clear c8
        replace H := Option.bind_eq_some_iff.mp H
        obtain ⟨t359, A120, H⟩ := H
        replace H : (if a1 > t359 then (rialtoref08_From.j0 k a1 a2 true a0_0 a0_1 l0_2 a0_3) else (rialtoref08_From.j0 k a1 a2 (decide (a2 < 1)) a0_0 a0_1 l0_2 a0_3)) = some r := H
        have A12 := Aside0.mk A120
        clear A120
        by_cases c13 : a1 > t359
        focus
          rw [if_pos c13] at H
          have c13b0 : decide (t359 < a1) = true := decide_eq_true c13
          clear c13
          have H' := Aside0.mk H
          clear H
        rotate_left 1
        focus
          rw [if_neg c13] at H
          have c13b0 : decide (t359 < a1) = false := decide_eq_false c13
          clear c13
          have H' := Aside0.mk H
          clear H
        rotate_left 1
      rotate_left 2
    rotate_left 3
    focus
      rw [if_neg c7] at H
      have c7b0 : (t358 == 0) = false := beq_eq_false_iff_ne.mpr c7
      have c7b1 : (t358 != 0) = true := bne_iff_ne.mpr c7
      (first | rw [c7b0] | (simp only [i64_w, i32_w]; rw [c7b0]) | skip)
      have H' := Aside0.mk H
      clear H
    rotate_left 1
    all_goals
      have hczyb357_0 : w5.cell? ⟨gb357, 0, none⟩ = some (.int .i64 a0_0) := (blk_cell BK357.out 0).trans rfl
      have hczyb357_1 : w5.cell? ⟨gb357, 1, none⟩ = some (.int .i64 a0_1) := (blk_cell BK357.out 1).trans rfl
      have hczyb357_2 : w5.cell? ⟨gb357, 2, none⟩ = some (.slice A0_2 l0_2.length c0_2) := (blk_cell BK357.out 2).trans rfl
      have hczyb357_3 : w5.cell? ⟨gb357, 3, none⟩ = some (.int .i64 a0_3) := (blk_cell BK357.out 3).trans rfl
      have hfzyb357_0 := blk_frozen BK357.out 0
      have hfzyb357_1 := blk_frozen BK357.out 1
      have hfzyb357_2 := blk_frozen BK357.out 2
      have hfzyb357_3 := blk_frozen BK357.out 3
      go_wp2_with (first | ((with_reducible refine gate_callee (f := 31) rfl ?_); refine goesL_ (some 10) rfl rfl Try.func31 (by kernel_rfl) rfl #[.agg #[.int .i64 a0_0, .int .i64 a0_1, .slice A0_2 l0_2.length c0_2, .int .i64 a0_3]] rfl (by (try simp only [List.map_toArray, List.map_cons, List.map_nil]); first | done | rfl | (simp only [List.length_drop, List.length_take]; rfl)) ?_; (with_reducible refine (rialtoref08_Check.calls k a0_0 a0_1 _ _ l0_2 a0_3 t358 _ ?side1 ?side2 A6.out).mono ?_); (case side1 => repeat (first | exact (Kd.C_below HR0_2.out HB.out) | (with_reducible refine Kd.C_alloc ?_ _) | (with_reducible refine Kd.C_drewN ?_ _) | (with_reducible refine Kd.C_drew ?_))); (case side2 => exact HC0_2.out); rintro e wx10i0 ⟨rfl, hb⟩; refine ⟨_, rfl, ?_⟩; have n0_ := Aside0.mk (blk_below (g := gb357) (o := .cells #[.int .i64 a0_0, .int .i64 a0_1, .slice A0_2 l0_2.length c0_2, .int .i64 a0_3] 26 (0, 0)) (by (with_reducible repeat (first | refine blk_drewN ?_ _ | refine blk_drew ?_ | refine blk_alloc ?_ _)); exact BK357.out) hb); have n1_ := Aside0.mk (below_step (by repeat (first | (with_reducible first | exact HB.out | apply below_alloc | apply pw_below_drewN | apply below_drew1 | refine below_set ?_ GE357.out) | exact HB.out)) hb); clear BK357; clear HB; have BK357 := n0_; have HB := n1_; clear n0_ n1_; (try clear hb); (try clear hb2); (try clear hk); (try clear hi); (try have hczx10b357_0 : wx10i0.cell? ⟨gb357, 0, none⟩ = some (.int .i64 a0_0) := (blk_cell BK357.out 0).trans rfl); (try have hczx10b357_1 : wx10i0.cell? ⟨gb357, 1, none⟩ = some (.int .i64 a0_1) := (blk_cell BK357.out 1).trans rfl); (try have hczx10b357_2 : wx10i0.cell? ⟨gb357, 2, none⟩ = some (.slice A0_2 l0_2.length c0_2) := (blk_cell BK357.out 2).trans rfl); (try have hczx10b357_3 : wx10i0.cell? ⟨gb357, 3, none⟩ = some (.int .i64 a0_3) := (blk_cell BK357.out 3).trans rfl); (try have hfzx10b357_0 := blk_frozen BK357.out 0); (try have hfzx10b357_1 := blk_frozen BK357.out 1); (try have hfzx10b357_2 := blk_frozen BK357.out 2); (try have hfzx10b357_3 := blk_frozen BK357.out 3)) | (go_at_call 47; (with_reducible refine (rialtoref08_end.calls a0_0 a0_1 _ _ l0_2 a0_3 t359 _ ?side1 ?side2 A12.out).mono ?_); (case side1 => repeat (first | exact (Kd.C_below HR0_2.out HB.out) | (with_reducible refine Kd.C_alloc ?_ _) | (with_reducible refine Kd.C_drewN ?_ _) | (with_reducible refine Kd.C_drew ?_))); (case side2 => exact HC0_2.out); rintro e wyi0 ⟨rfl, hb⟩; have n0_ := Aside0.mk (blk_below (g := gb357) (o := .cells #[.int .i64 a0_0, .int .i64 a0_1, .slice A0_2 l0_2.length c0_2, .int .i64 a0_3] 26 (0, 0)) (by (with_reducible repeat (first | refine blk_drewN ?_ _ | refine blk_drew ?_ | refine blk_alloc ?_ _)); exact BK357.out) hb); have n1_ := Aside0.mk (below_step (by repeat (first | (with_reducible first | exact HB.out | apply below_alloc | apply pw_below_drewN | apply below_drew1 | refine below_set ?_ GE357.out) | exact HB.out)) hb); clear BK357; clear HB; have BK357 := n0_; have HB := n1_; clear n0_ n1_; (try clear hb); (try clear hb2); (try clear hk); (try clear hi)))
      go_meet
      case rel => (first | exact ⟨_, (true), (by first | rfl | (simp; done) | (simp [*]; done)), H', ⟨by first | omega | exact Nat.le_refl _⟩, ⟨by (with_reducible repeat (first | refine blk_drewN ?_ _ | refine blk_drew ?_ | refine blk_alloc ?_ _)); exact BK357.out⟩, ⟨by repeat (first | (with_reducible first | exact HB.out | apply below_alloc | apply pw_below_drewN | apply below_drew1 | refine below_set ?_ GE357.out) | exact HB.out)⟩⟩ | exact ⟨_, (decide (a2 < 1)), (by first | rfl | (simp; done) | (simp [*]; done)), H', ⟨by first | omega | exact Nat.le_refl _⟩, ⟨by (with_reducible repeat (first | refine blk_drewN ?_ _ | refine blk_drew ?_ | refine blk_alloc ?_ _)); exact BK357.out⟩, ⟨by repeat (first | (with_reducible first | exact HB.out | apply below_alloc | apply pw_below_drewN | apply below_drew1 | refine below_set ?_ GE357.out) | exact HB.out)⟩⟩)
  case rest =>
    clear HC4
    obtain ⟨kq, x28_3, rfl, HA, HJ3, BK357, HB⟩ := hcut
    cases kq with
    | zero => exact absurd HA.out (by simp [rialtoref08_From.j0])
    | succ kj3 =>
      have H := HA.out
      clear HA
      simp only [rialtoref08_From.j0] at H
      by_cases c24 : x28_3 = true
      · subst c24
        have H1 : (some ([] : List (S33))) = some r := by rw [if_pos rfl] at H; exact H
        clear H
        have H := H1
        clear H1
        obtain rfl := Option.some.inj H
        go_wp2
        go_ret
        exact ⟨_, by first | rfl | (simp [errW_none, errW_some] <;> rfl) | (simp [*, errW_none, errW_some] <;> rfl), by first | exact Kd.R_nil _ _ _ _ _ | exact Kd.N_nil _ _ _ _ _ | exact Kd.V_nil _ _ _ _ _ | exact Kd.Q_nil _ _ _ _ _ | exact Kd.S_nil _ _ _ _ _, by repeat (first | (with_reducible first | exact HB.out | apply below_alloc | apply pw_below_drewN | apply below_drew1 | refine below_set ?_ GE357.out) | exact HB.out)⟩
      · replace c24 := Bool.eq_false_iff.mpr c24
        subst c24
        have H1 : (rialtoref08_From.l0 kj3 a2 ([] : List (S33)) a1 a0_0 a0_1 l0_2 a0_3) = some r := by rw [if_neg (show ¬ (false = true) by decide)] at H; exact H
        clear H
        have H := H1
        clear H1
        have H' := Aside0.mk H
        clear H
        go_wp2
        go_loopg [7, 8] kj3 (fun kq v7 v8 w' => ∃ (x7_2 : List (S33)) (x8_2 : Int), v8 = .int .i64 x8_2 ∧ Aside0 (rialtoref08_From.l0 kq a2 x7_2 x8_2 a0_0 a0_1 l0_2 a0_3 = some r) ∧ Aside0 (kq ≤ kj3) ∧ Aside0 (Kd.R k33 33 w' w.heap.size (fun _ => True) v7 x7_2) ∧ Aside0 (w'.heap[gb357]? = some (.cells #[.int .i64 a0_0, .int .i64 a0_1, (.slice A0_2 l0_2.length c0_2), .int .i64 a0_3] 26 (0, 0))) ∧ Aside0 (Below w.heap.size w w'))
        case atStart => exact ⟨(([] : List (S33))), (a1), (by first | rfl | (simp; done) | (simp [*]; done)), H', ⟨Nat.le_refl _⟩, ⟨by first | exact Kd.R_nil _ _ _ _ _ | exact Kd.N_nil _ _ _ _ _ | exact Kd.V_nil _ _ _ _ _ | exact Kd.Q_nil _ _ _ _ _ | exact Kd.S_nil _ _ _ _ _⟩, ⟨by (with_reducible repeat (first | refine blk_drewN ?_ _ | refine blk_drew ?_ | refine blk_alloc ?_ _)); exact BK357.out⟩, ⟨by repeat (first | (with_reducible first | exact HB.out | apply below_alloc | apply pw_below_drewN | apply below_drew1 | refine below_set ?_ GE357.out) | exact HB.out)⟩⟩
        case round =>
          clear H'
          try clear c24
          obtain ⟨x7_2, x8_2, rfl, HA, HK2, HO_7, BK357, HB⟩ := hrel
          cases gk with
          | zero => exact absurd HA.out (by simp [rialtoref08_From.l0])
          | succ k2 =>
            have H := HA.out
            clear HA
            simp only [rialtoref08_From.l0] at H
            replace H := Option.bind_eq_some_iff.mp H
            obtain ⟨t360, A250, H⟩ := H
            replace H : (if x8_2 ≤ t360 then (if (x7_2.length : Int) < a2 then (if 0 ≤ (wrap64 ((wrap64 (x8_2 - a0_0)) - 1)) then (if (wrap64 ((wrap64 (x8_2 - a0_0)) - 1)) < (l0_2.length : Int) then (if x7_2.length < 4398046511104 then (rialtoref08_From.l0 k2 a2 (x7_2 ++ [(⟨(rd_T33 l0_2 (wrap64 ((wrap64 (x8_2 - a0_0)) - 1))).f0, (rd_T33 l0_2 (wrap64 ((wrap64 (x8_2 - a0_0)) - 1))).f1, (rd_T33 l0_2 (wrap64 ((wrap64 (x8_2 - a0_0)) - 1))).f2⟩ : S33)]) (wrap64 (x8_2 + 1)) a0_0 a0_1 l0_2 a0_3) else (none)) else (none)) else (none)) else (some x7_2)) else (some x7_2)) = some r := H
            have A25 := Aside0.mk A250
            clear A250
            by_cases c26 : x8_2 ≤ t360
            · rw [if_pos c26] at H
              have c26b0 : decide (x8_2 ≤ t360) = true := decide_eq_true c26
              clear c26
              by_cases c27 : (x7_2.length : Int) < a2
              · rw [if_pos c27] at H
                have c27b0 : decide ((x7_2.length : Int) < a2) = true := decide_eq_true c27
                clear c27
                obtain ⟨ji28, hji28⟩ : ∃ j_ : Int, (wrap64 ((wrap64 (x8_2 - a0_0)) - 1)) = j_ := ⟨_, rfl⟩
                replace H : (if 0 ≤ (ji28) then (if (ji28) < (l0_2.length : Int) then (if x7_2.length < 4398046511104 then (rialtoref08_From.l0 k2 a2 (x7_2 ++ [(⟨(rd_T33 l0_2 (ji28)).f0, (rd_T33 l0_2 (ji28)).f1, (rd_T33 l0_2 (ji28)).f2⟩ : S33)]) (wrap64 (x8_2 + 1)) a0_0 a0_1 l0_2 a0_3) else (none)) else (none)) else (none)) = some r := by first | (rw [hji28] at H; exact H) | (simp only [hji28] at H ⊢; exact H)
                (try rw [hji28] at A25)
                have hji28w : (IntKind.i64.wrap ((wrap64 (x8_2 - a0_0)) - 1)) = ji28 := (i64_w _).trans hji28
                by_cases c29 : 0 ≤ (ji28)
                · rw [if_pos c29] at H
                  have c29b0 : decide (0 ≤ (ji28)) = true := decide_eq_true c29
                  clear c29
                  by_cases c30 : (ji28) < (l0_2.length : Int)
                  · rw [if_pos c30] at H
                    have c30b0 : decide ((ji28) < (l0_2.length : Int)) = true := decide_eq_true c30
                    clear c30
                    by_cases c31 : x7_2.length < 4398046511104
                    · rw [if_pos c31] at H
                      have LMc31 := Aside0.mk c31
                      clear c31
                      obtain ⟨y362, hy362⟩ : ∃ y_ : List (S33), y_ = (x7_2 ++ [(⟨(rd_T33 l0_2 (ji28)).f0, (rd_T33 l0_2 (ji28)).f1, (rd_T33 l0_2 (ji28)).f2⟩ : S33)]) := ⟨_, rfl⟩
                      replace H : (rialtoref08_From.l0 k2 a2 y362 (wrap64 (x8_2 + 1)) a0_0 a0_1 l0_2 a0_3) = some r := by first | (rw [hy362]; with_reducible exact H) | (have H2_ := (Option.bind_some _ _).symm.trans H; rw [hy362]; with_reducible exact H2_) | (have H2_ := (Option.bind_some _ _).symm.trans H; with_reducible exact H2_) | with_reducible exact H | (rw [hy362]; exact H) | exact H
                      have Ny362 := Aside0.mk hy362
                      clear hy362
                      have H' := Aside0.mk H
                      clear H
                      have hcz32_0 : wr.cell? ⟨gb357, 0, none⟩ = some (.int .i64 a0_0) := (blk_cell BK357.out 0).trans rfl
                      have hcz32_1 : wr.cell? ⟨gb357, 1, none⟩ = some (.int .i64 a0_1) := (blk_cell BK357.out 1).trans rfl
                      have hcz32_2 : wr.cell? ⟨gb357, 2, none⟩ = some (.slice A0_2 l0_2.length c0_2) := (blk_cell BK357.out 2).trans rfl
                      have hcz32_3 : wr.cell? ⟨gb357, 3, none⟩ = some (.int .i64 a0_3) := (blk_cell BK357.out 3).trans rfl
                      have hfz32_0 := blk_frozen BK357.out 0
                      have hfz32_1 := blk_frozen BK357.out 1
                      have hfz32_2 := blk_frozen BK357.out 2
                      have hfz32_3 := blk_frozen BK357.out 3
                      go_wp2_with (first | ((with_reducible refine gate_callee (f := 47) rfl ?_); refine goesL_ (some 32) rfl rfl Try.func47 (by kernel_rfl) rfl #[.agg #[.int .i64 a0_0, .int .i64 a0_1, .slice A0_2 l0_2.length c0_2, .int .i64 a0_3]] rfl (by (try simp only [List.map_toArray, List.map_cons, List.map_nil]); first | done | rfl | (simp only [List.length_drop, List.length_take]; rfl)) ?_; (with_reducible refine (rialtoref08_end.calls a0_0 a0_1 _ _ l0_2 a0_3 t360 _ ?side1 ?side2 A25.out).mono ?_); (case side1 => repeat (first | exact (Kd.C_below HR0_2.out HB.out) | (with_reducible refine Kd.C_alloc ?_ _) | (with_reducible refine Kd.C_drewN ?_ _) | (with_reducible refine Kd.C_drew ?_))); (case side2 => exact HC0_2.out); rintro e w33 ⟨rfl, hb⟩; refine ⟨_, rfl, ?_⟩; have n0_ := Aside0.mk (Kd.R_below (by (with_reducible repeat (first | apply Kd.R_alloc | apply Kd.R_drewN | apply Kd.R_drew)); exact HO_7.out) hb); have n1_ := Aside0.mk (blk_below (g := gb357) (o := .cells #[.int .i64 a0_0, .int .i64 a0_1, .slice A0_2 l0_2.length c0_2, .int .i64 a0_3] 26 (0, 0)) (by (with_reducible repeat (first | refine blk_drewN ?_ _ | refine blk_drew ?_ | refine blk_alloc ?_ _)); exact BK357.out) hb); have n2_ := Aside0.mk (below_step (by repeat (first | (with_reducible first | exact HB.out | apply below_alloc | apply pw_below_drewN | apply below_drew1 | refine below_set ?_ GE357.out) | exact HB.out)) hb); clear HO_7; clear BK357; clear HB; have HO_7 := n0_; have BK357 := n1_; have HB := n2_; clear n0_ n1_ n2_; (try clear hb); (try clear hb2); (try clear hk); (try clear hi); obtain ⟨Ao34, co34, eo34⟩ := Kd.R_slice HO_7.out; subst eo34; have hcz35_0 : w33.cell? ⟨gb357, 0, none⟩ = some (.int .i64 a0_0) := (blk_cell BK357.out 0).trans rfl; have hcz35_1 : w33.cell? ⟨gb357, 1, none⟩ = some (.int .i64 a0_1) := (blk_cell BK357.out 1).trans rfl; have hcz35_2 : w33.cell? ⟨gb357, 2, none⟩ = some (.slice A0_2 l0_2.length c0_2) := (blk_cell BK357.out 2).trans rfl; have hcz35_3 : w33.cell? ⟨gb357, 3, none⟩ = some (.int .i64 a0_3) := (blk_cell BK357.out 3).trans rfl; have hfz35_0 := blk_frozen BK357.out 0; have hfz35_1 := blk_frozen BK357.out 1; have hfz35_2 := blk_frozen BK357.out 2; have hfz35_3 := blk_frozen BK357.out 3; have p361 : 0 ≤ ((ji28) : Int) := of_decide_eq_true (by first | (with_reducible assumption) | assumption); have q361 : (ji28) < (l0_2.length : Int) := of_decide_eq_true (by first | (with_reducible assumption) | assumption); obtain ⟨ad361, e361, hx361_0, hx361_1, hx361_2⟩ := at_T33 HR0_2.out (ji28) p361 q361; cases e361; replace hx361_0 := (HB.out.cell (World.block_lt_of_cell? w _ hx361_0)).trans hx361_0; replace hx361_1 := (HB.out.cell (World.block_lt_of_cell? w _ hx361_1)).trans hx361_1; replace hx361_2 := (HB.out.cell (World.block_lt_of_cell? w _ hx361_2)).trans hx361_2; replace p361 := eq_true p361; replace q361 := eq_true q361) | ((with_reducible refine gate_builtin (b := .append) (xs := #[.tmp 42, .tmp 53]) rfl ?_); (try (refine gate_guard (by rfl) ?_; dsimp only)); at_builtin; refine Kd.R_append k33 (w0 := w) w.heap.size rfl (.tmp 42) (.tmp 53) 24 33 (.agg #[(.int .i64 0), (.int .i64 0), (.string ⟨#[]⟩)]) 32 rfl Try.underlying24 info33 rfl (by decide) (by omega) (.slice Ao34 x7_2.length co34) x7_2 (⟨(rd_T33 l0_2 (ji28)).f0, (rd_T33 l0_2 (ji28)).f1, (rd_T33 l0_2 (ji28)).f2⟩ : S33) [.int .i64 ((rd_T33 l0_2 (ji28)).f0), .int .i64 ((rd_T33 l0_2 (ji28)).f1), .string ((rd_T33 l0_2 (ji28)).f2)] (fun _ => True) (fun _ => False) rfl rfl ?aP (fun _ hk => hk.elim) ?aF ?aO ?aB ?aS ?aL ?_; (case aP => exact k33_mkM _ _ _ (⟨(rd_T33 l0_2 (ji28)).f0, (rd_T33 l0_2 (ji28)).f1, (rd_T33 l0_2 (ji28)).f2⟩ : S33)); (case aB => exact (by repeat (first | (with_reducible first | exact HB.out | apply below_alloc | apply pw_below_drewN | apply below_drew1 | refine below_set ?_ GE357.out) | exact HB.out))); (case aF => exact (fun _ _ => trivial)); (case aO => exact (by (with_reducible repeat (first | apply Kd.R_alloc | apply Kd.R_drewN | apply Kd.R_drew)); exact HO_7.out)); (case aS => exact (below_size (by repeat (first | (with_reducible first | exact HB.out | apply below_alloc | apply pw_below_drewN | apply below_drew1 | refine below_set ?_ GE357.out) | exact HB.out)))); (case aL => have := LMc31.out; omega); intro v363 w36 ho hb hg hat; rw [← Ny362.out] at ho; have n0_ := Aside0.mk (blk_grown (g := gb357) (o := .cells #[.int .i64 a0_0, .int .i64 a0_1, .slice (some ad361) l0_2.length c0_2, .int .i64 a0_3] 26 (0, 0)) (by (with_reducible repeat (first | refine blk_drewN ?_ _ | refine blk_drew ?_ | refine blk_alloc ?_ _)); exact BK357.out) hg (Kd.R_ne HO_7.out BK357.out (by decide))); have n1_ := Aside0.mk (hb); have n2_ := Aside0.mk (ho); clear BK357; clear HB; clear HO_7; have BK357 := n0_; have HB := n1_; have HO364 := n2_; clear n0_ n1_ n2_; clear ho hb hg hat))
                      go_roundg k2
                      case measure => have := HJ3.out; have := HK2.out; omega
                      case rel => exact ⟨(y362), (wrap64 (x8_2 + 1)), (by first | rfl | (simp; done) | (simp [*]; done)), H', ⟨by have := HJ3.out; have := HK2.out; omega⟩, ⟨by (with_reducible repeat (first | apply Kd.R_alloc | apply Kd.R_drewN | apply Kd.R_drew)); exact HO364.out⟩, ⟨by (with_reducible repeat (first | refine blk_drewN ?_ _ | refine blk_drew ?_ | refine blk_alloc ?_ _)); exact BK357.out⟩, ⟨by repeat (first | (with_reducible first | exact HB.out | apply below_alloc | apply pw_below_drewN | apply below_drew1 | refine below_set ?_ GE357.out) | exact HB.out)⟩⟩
                    · rw [if_neg c31] at H
                      exact absurd H (by simp)
                  · rw [if_neg c30] at H
                    exact absurd H (by simp)
                · rw [if_neg c29] at H
                  exact absurd H (by simp)
              · rw [if_neg c27] at H
                have c27b0 : decide ((x7_2.length : Int) < a2) = false := decide_eq_false c27
                clear c27
                obtain rfl := Option.some.inj H
                have hcz37_0 : wr.cell? ⟨gb357, 0, none⟩ = some (.int .i64 a0_0) := (blk_cell BK357.out 0).trans rfl
                have hcz37_1 : wr.cell? ⟨gb357, 1, none⟩ = some (.int .i64 a0_1) := (blk_cell BK357.out 1).trans rfl
                have hcz37_2 : wr.cell? ⟨gb357, 2, none⟩ = some (.slice A0_2 l0_2.length c0_2) := (blk_cell BK357.out 2).trans rfl
                have hcz37_3 : wr.cell? ⟨gb357, 3, none⟩ = some (.int .i64 a0_3) := (blk_cell BK357.out 3).trans rfl
                have hfz37_0 := blk_frozen BK357.out 0
                have hfz37_1 := blk_frozen BK357.out 1
                have hfz37_2 := blk_frozen BK357.out 2
                have hfz37_3 := blk_frozen BK357.out 3
                go_wp2_with (first | ((with_reducible refine gate_callee (f := 47) rfl ?_); refine goesL_ (some 32) rfl rfl Try.func47 (by kernel_rfl) rfl #[.agg #[.int .i64 a0_0, .int .i64 a0_1, .slice A0_2 l0_2.length c0_2, .int .i64 a0_3]] rfl (by (try simp only [List.map_toArray, List.map_cons, List.map_nil]); first | done | rfl | (simp only [List.length_drop, List.length_take]; rfl)) ?_; (with_reducible refine (rialtoref08_end.calls a0_0 a0_1 _ _ l0_2 a0_3 t360 _ ?side1 ?side2 A25.out).mono ?_); (case side1 => repeat (first | exact (Kd.C_below HR0_2.out HB.out) | (with_reducible refine Kd.C_alloc ?_ _) | (with_reducible refine Kd.C_drewN ?_ _) | (with_reducible refine Kd.C_drew ?_))); (case side2 => exact HC0_2.out); rintro e w38 ⟨rfl, hb⟩; refine ⟨_, rfl, ?_⟩; have n0_ := Aside0.mk (Kd.R_below (by (with_reducible repeat (first | apply Kd.R_alloc | apply Kd.R_drewN | apply Kd.R_drew)); exact HO_7.out) hb); have n1_ := Aside0.mk (blk_below (g := gb357) (o := .cells #[.int .i64 a0_0, .int .i64 a0_1, .slice A0_2 l0_2.length c0_2, .int .i64 a0_3] 26 (0, 0)) (by (with_reducible repeat (first | refine blk_drewN ?_ _ | refine blk_drew ?_ | refine blk_alloc ?_ _)); exact BK357.out) hb); have n2_ := Aside0.mk (below_step (by repeat (first | (with_reducible first | exact HB.out | apply below_alloc | apply pw_below_drewN | apply below_drew1 | refine below_set ?_ GE357.out) | exact HB.out)) hb); clear HO_7; clear BK357; clear HB; have HO_7 := n0_; have BK357 := n1_; have HB := n2_; clear n0_ n1_ n2_; (try clear hb); (try clear hb2); (try clear hk); (try clear hi); obtain ⟨Ao39, co39, eo39⟩ := Kd.R_slice HO_7.out; subst eo39))
                go_ret
                exact ⟨_, by first | rfl | (simp [errW_none, errW_some] <;> rfl) | (simp [*, errW_none, errW_some] <;> rfl), by (with_reducible repeat (first | apply Kd.R_alloc | apply Kd.R_drewN | apply Kd.R_drew)); exact HO_7.out, by repeat (first | (with_reducible first | exact HB.out | apply below_alloc | apply pw_below_drewN | apply below_drew1 | refine below_set ?_ GE357.out) | exact HB.out)⟩
            · rw [if_neg c26] at H
              have c26b0 : decide (x8_2 ≤ t360) = false := decide_eq_false c26
              clear c26
              obtain rfl := Option.some.inj H
              have hcz40_0 : wr.cell? ⟨gb357, 0, none⟩ = some (.int .i64 a0_0) := (blk_cell BK357.out 0).trans rfl
              have hcz40_1 : wr.cell? ⟨gb357, 1, none⟩ = some (.int .i64 a0_1) := (blk_cell BK357.out 1).trans rfl
              have hcz40_2 : wr.cell? ⟨gb357, 2, none⟩ = some (.slice A0_2 l0_2.length c0_2) := (blk_cell BK357.out 2).trans rfl
              have hcz40_3 : wr.cell? ⟨gb357, 3, none⟩ = some (.int .i64 a0_3) := (blk_cell BK357.out 3).trans rfl
              have hfz40_0 := blk_frozen BK357.out 0
              have hfz40_1 := blk_frozen BK357.out 1
              have hfz40_2 := blk_frozen BK357.out 2
              have hfz40_3 := blk_frozen BK357.out 3
              go_wp2_with (first | ((with_reducible refine gate_callee (f := 47) rfl ?_); refine goesL_ (some 32) rfl rfl Try.func47 (by kernel_rfl) rfl #[.agg #[.int .i64 a0_0, .int .i64 a0_1, .slice A0_2 l0_2.length c0_2, .int .i64 a0_3]] rfl (by (try simp only [List.map_toArray, List.map_cons, List.map_nil]); first | done | rfl | (simp only [List.length_drop, List.length_take]; rfl)) ?_; (with_reducible refine (rialtoref08_end.calls a0_0 a0_1 _ _ l0_2 a0_3 t360 _ ?side1 ?side2 A25.out).mono ?_); (case side1 => repeat (first | exact (Kd.C_below HR0_2.out HB.out) | (with_reducible refine Kd.C_alloc ?_ _) | (with_reducible refine Kd.C_drewN ?_ _) | (with_reducible refine Kd.C_drew ?_))); (case side2 => exact HC0_2.out); rintro e w41 ⟨rfl, hb⟩; refine ⟨_, rfl, ?_⟩; have n0_ := Aside0.mk (Kd.R_below (by (with_reducible repeat (first | apply Kd.R_alloc | apply Kd.R_drewN | apply Kd.R_drew)); exact HO_7.out) hb); have n1_ := Aside0.mk (blk_below (g := gb357) (o := .cells #[.int .i64 a0_0, .int .i64 a0_1, .slice A0_2 l0_2.length c0_2, .int .i64 a0_3] 26 (0, 0)) (by (with_reducible repeat (first | refine blk_drewN ?_ _ | refine blk_drew ?_ | refine blk_alloc ?_ _)); exact BK357.out) hb); have n2_ := Aside0.mk (below_step (by repeat (first | (with_reducible first | exact HB.out | apply below_alloc | apply pw_below_drewN | apply below_drew1 | refine below_set ?_ GE357.out) | exact HB.out)) hb); clear HO_7; clear BK357; clear HB; have HO_7 := n0_; have BK357 := n1_; have HB := n2_; clear n0_ n1_ n2_; (try clear hb); (try clear hb2); (try clear hk); (try clear hi)))
              go_ret
              exact ⟨_, by first | rfl | (simp [errW_none, errW_some] <;> rfl) | (simp [*, errW_none, errW_some] <;> rfl), by (with_reducible repeat (first | apply Kd.R_alloc | apply Kd.R_drewN | apply Kd.R_drew)); exact HO_7.out, by repeat (first | (with_reducible first | exact HB.out | apply below_alloc | apply pw_below_drewN | apply below_drew1 | refine below_set ?_ GE357.out) | exact HB.out)⟩

end Go.Proofs.Ytiebeiloooblpaa.E
end
section
-- written by myprint.py, a program of this session over the kit's print.py
namespace Go.Proofs.Ytiebeiloooblpaa.E
open Go.Proofs.YtiebeiloooblpaaST
open Go.RowKit Go.Proofs.YtiebeiloooblpaaW.PrintWords Go.Proofs.YtiebeiloooblpaaW.PrintLast Go.Proofs.YtiebeiloooblpaaW.PrintMore
attribute [local go_sem] max2_int min2_int max_two min_two max_three min_three max_four min_four   -- for this text's walks alone
set_option linter.unusedVariables false
set_option linter.unusedSimpArgs false

attribute [local go_sem high] eqA23
/-! ### rialtolaw08_EntriesTell: function 9 -/
def rialtolaw08_EntriesTell.j0 : Nat → List (S33) → Bool → Int → Int → List (S33) → Int → Int → Int → List (S33) → Int → Option (Bool)
  | 0, _, _, _, _, _, _, _, _, _, _ => none
  | k + 1, x12, x61, x366000, x366001, x366002, x366003, x373000, x373001, x373002, x373003 => if x61 = true then (some false) else ((rialtolaw08_spoil.f k x12).bind fun t390 => ((rialtoref08_Same.f k x373000 x373001 x373002 x373003 x366000 x366001 x366002 x366003).bind fun t391 => (if t391 = true then ((rialtolaw08_live.f k).bind fun t392 => (some t392)) else (some false))))
def rialtolaw08_EntriesTell.f (k : Nat) (a0_0 : Int) (a0_1 : Int) (l0_2 : List (S33)) (a0_3 : Int) (a1 : Int) (a2 : Int) : Option (Bool) := (rialtoref08_Copy.f a0_0 a0_1 l0_2 a0_3).bind fun bt366 => ((entries_TermAt.f k bt366.1 bt366.2.1 bt366.2.2.1 bt366.2.2.2 a1).bind fun bt373 => ((rialtoref08_TermAt.f k a0_0 a0_1 l0_2 a0_3 a1).bind fun bt375 => ((entries_From.f k bt366.1 bt366.2.1 bt366.2.2.1 bt366.2.2.2 a1 a2).bind fun t377 => ((entries_Check.f k bt366.1 bt366.2.1 bt366.2.2.1 bt366.2.2.2).bind fun t380 => ((rialtoref08_Check.f k a0_0 a0_1 l0_2 a0_3).bind fun t381 => (if t380 = t381 then ((entries_Last.f k bt366.1 bt366.2.1 bt366.2.2.1 bt366.2.2.2).bind fun bt382 => ((rialtoref08_Last.f k a0_0 a0_1 l0_2 a0_3).bind fun bt384 => (if (!(bt382.1 == bt384.1) || (!(bt382.2 == bt384.2))) = true then (rialtolaw08_EntriesTell.j0 k t377 true a0_0 a0_1 l0_2 a0_3 bt366.1 bt366.2.1 bt366.2.2.1 bt366.2.2.2) else (if bt373.1 = bt375.1 then (if (bt373.2 != bt375.2) = true then (rialtolaw08_EntriesTell.j0 k t377 true a0_0 a0_1 l0_2 a0_3 bt366.1 bt366.2.1 bt366.2.2.1 bt366.2.2.2) else ((rialtoref08_From.f k a0_0 a0_1 l0_2 a0_3 a1 a2).bind fun t386 => ((rialtoref08_SameEntries.f k t377 t386).bind fun t389 => (rialtolaw08_EntriesTell.j0 k t377 (!t389) a0_0 a0_1 l0_2 a0_3 bt366.1 bt366.2.1 bt366.2.2.1 bt366.2.2.2)))) else (rialtolaw08_EntriesTell.j0 k t377 true a0_0 a0_1 l0_2 a0_3 bt366.1 bt366.2.1 bt366.2.2.1 bt366.2.2.2))))) else (rialtolaw08_EntriesTell.j0 k t377 true a0_0 a0_1 l0_2 a0_3 bt366.1 bt366.2.1 bt366.2.2.1 bt366.2.2.2)))))))
def rialtolaw08_EntriesTell.T5 : Bool × List (List Nat × List Nat) := (true, [([], []), ([0], [0]), ([], []), ([2, 1], [2]), ([1, 3], [1, 3]), ([4, 3], [4]), ([5], [5]), ([6, 5, 5], [5, 6]), ([5], [5]), ([8, 7, 5], [5, 8]), ([7, 9, 5], [5, 7, 9]), ([5, 10], [5, 10]), ([11, 9], [11]), ([12], [12]), ([12], [12]), ([13, 14, 12], [12, 13, 14]), ([12, 15], [12, 15]), ([16, 12], [16]), ([17], [17]), ([17], [17]), ([18, 19, 17], [17, 18, 19]), ([17, 20], [17, 20]), ([21, 17], [21]), ([22], [22]), ([22], [22]), ([22], [22]), ([22], [22]), ([24, 25, 26, 22, 22], [22, 24, 25, 26]), ([23, 27, 27, 22], [22, 23, 27]), ([28, 22], [22, 28]), ([22, 29], [22, 29])])
def rialtolaw08_EntriesTell.B5 : List Nat := [0, 1, 0, 7, 15, 31, 63, 127, 63, 511, 1023, 2047, 4095, 8191, 8191, 32767, 65535, 131071, 262143, 262143, 1048575, 2097151, 4194303, 8388607, 8388607, 8388607, 8388607, 125829119, 268435455, 536870911, 1073741823]
theorem rialtolaw08_EntriesTell.tab5 : rtab .any (opsOf Try.f9 5) = rialtolaw08_EntriesTell.T5 := by kernel_rfl
theorem rialtolaw08_EntriesTell.bits5 : waitsOk rialtolaw08_EntriesTell.T5.2 rialtolaw08_EntriesTell.B5 = true := by kernel_rfl
set_option maxHeartbeats 8000000 in
set_option maxRecDepth 100000 in
theorem rialtolaw08_EntriesTell.calls (k : Nat) (a0_0 : Int) (a0_1 : Int) (A0_2 : Option Addr) (c0_2 : Nat) (l0_2 : List (S33)) (a0_3 : Int) (a1 : Int) (a2 : Int) (r : Bool) (w : World) (hr0_2 : Kd.C k33 w A0_2 l0_2.length l0_2) (hc0_2 : l0_2.length ≤ c0_2) (h : rialtolaw08_EntriesTell.f k a0_0 a0_1 l0_2 a0_3 a1 a2 = some r) :
    Calls Try.prog 9 #[.agg #[.int .i64 a0_0, .int .i64 a0_1, .slice A0_2 l0_2.length c0_2, .int .i64 a0_3], .int .i64 a1, .int .i64 a2] w fun e w' => e = .returned (.bool r) ∧ Below w.heap.size w w' := by
  have hu26 := Try.underlying26
  have HR0_2 := Aside0.mk hr0_2
  have HC0_2 := Aside0.mk hc0_2
  clear hr0_2 hc0_2
  have HB := Aside0.mk (Below.refl w.heap.size w)
  have H : ((rialtoref08_Copy.f a0_0 a0_1 l0_2 a0_3).bind fun bt366 => ((entries_TermAt.f k bt366.1 bt366.2.1 bt366.2.2.1 bt366.2.2.2 a1).bind fun bt373 => ((rialtoref08_TermAt.f k a0_0 a0_1 l0_2 a0_3 a1).bind fun bt375 => ((entries_From.f k bt366.1 bt366.2.1 bt366.2.2.1 bt366.2.2.2 a1 a2).bind fun t377 => ((entries_Check.f k bt366.1 bt366.2.1 bt366.2.2.1 bt366.2.2.2).bind fun t380 => ((rialtoref08_Check.f k a0_0 a0_1 l0_2 a0_3).bind fun t381 => (if t380 = t381 then ((entries_Last.f k bt366.1 bt366.2.1 bt366.2.2.1 bt366.2.2.2).bind fun bt382 => ((rialtoref08_Last.f k a0_0 a0_1 l0_2 a0_3).bind fun bt384 => (if (!(bt382.1 == bt384.1) || (!(bt382.2 == bt384.2))) = true then (rialtolaw08_EntriesTell.j0 k t377 true a0_0 a0_1 l0_2 a0_3 bt366.1 bt366.2.1 bt366.2.2.1 bt366.2.2.2) else (if bt373.1 = bt375.1 then (if (bt373.2 != bt375.2) = true then (rialtolaw08_EntriesTell.j0 k t377 true a0_0 a0_1 l0_2 a0_3 bt366.1 bt366.2.1 bt366.2.2.1 bt366.2.2.2) else ((rialtoref08_From.f k a0_0 a0_1 l0_2 a0_3 a1 a2).bind fun t386 => ((rialtoref08_SameEntries.f k t377 t386).bind fun t389 => (rialtolaw08_EntriesTell.j0 k t377 (!t389) a0_0 a0_1 l0_2 a0_3 bt366.1 bt366.2.1 bt366.2.2.1 bt366.2.2.2)))) else (rialtolaw08_EntriesTell.j0 k t377 true a0_0 a0_1 l0_2 a0_3 bt366.1 bt366.2.1 bt366.2.2.1 bt366.2.2.2))))) else (rialtolaw08_EntriesTell.j0 k t377 true a0_0 a0_1 l0_2 a0_3 bt366.1 bt366.2.1 bt366.2.2.1 bt366.2.2.2)))))))) = some r := h
  clear h
  replace H := Option.bind_eq_some_iff.mp H
  obtain ⟨⟨t366, t367, t368, t371⟩, A40, H⟩ := H
  replace H : ((entries_TermAt.f k t366 t367 t368 t371 a1).bind fun bt373 => ((rialtoref08_TermAt.f k a0_0 a0_1 l0_2 a0_3 a1).bind fun bt375 => ((entries_From.f k t366 t367 t368 t371 a1 a2).bind fun t377 => ((entries_Check.f k t366 t367 t368 t371).bind fun t380 => ((rialtoref08_Check.f k a0_0 a0_1 l0_2 a0_3).bind fun t381 => (if t380 = t381 then ((entries_Last.f k t366 t367 t368 t371).bind fun bt382 => ((rialtoref08_Last.f k a0_0 a0_1 l0_2 a0_3).bind fun bt384 => (if (!(bt382.1 == bt384.1) || (!(bt382.2 == bt384.2))) = true then (rialtolaw08_EntriesTell.j0 k t377 true a0_0 a0_1 l0_2 a0_3 t366 t367 t368 t371) else (if bt373.1 = bt375.1 then (if (bt373.2 != bt375.2) = true then (rialtolaw08_EntriesTell.j0 k t377 true a0_0 a0_1 l0_2 a0_3 t366 t367 t368 t371) else ((rialtoref08_From.f k a0_0 a0_1 l0_2 a0_3 a1 a2).bind fun t386 => ((rialtoref08_SameEntries.f k t377 t386).bind fun t389 => (rialtolaw08_EntriesTell.j0 k t377 (!t389) a0_0 a0_1 l0_2 a0_3 t366 t367 t368 t371)))) else (rialtolaw08_EntriesTell.j0 k t377 true a0_0 a0_1 l0_2 a0_3 t366 t367 t368 t371))))) else (rialtolaw08_EntriesTell.j0 k t377 true a0_0 a0_1 l0_2 a0_3 t366 t367 t368 t371))))))) = some r := H
  have A4 := Aside0.mk A40
  clear A40
  replace H := Option.bind_eq_some_iff.mp H
  obtain ⟨⟨t373, t374⟩, A50, H⟩ := H
  replace H : ((rialtoref08_TermAt.f k a0_0 a0_1 l0_2 a0_3 a1).bind fun bt375 => ((entries_From.f k t366 t367 t368 t371 a1 a2).bind fun t377 => ((entries_Check.f k t366 t367 t368 t371).bind fun t380 => ((rialtoref08_Check.f k a0_0 a0_1 l0_2 a0_3).bind fun t381 => (if t380 = t381 then ((entries_Last.f k t366 t367 t368 t371).bind fun bt382 => ((rialtoref08_Last.f k a0_0 a0_1 l0_2 a0_3).bind fun bt384 => (if (!(bt382.1 == bt384.1) || (!(bt382.2 == bt384.2))) = true then (rialtolaw08_EntriesTell.j0 k t377 true a0_0 a0_1 l0_2 a0_3 t366 t367 t368 t371) else (if t373 = bt375.1 then (if (t374 != bt375.2) = true then (rialtolaw08_EntriesTell.j0 k t377 true a0_0 a0_1 l0_2 a0_3 t366 t367 t368 t371) else ((rialtoref08_From.f k a0_0 a0_1 l0_2 a0_3 a1 a2).bind fun t386 => ((rialtoref08_SameEntries.f k t377 t386).bind fun t389 => (rialtolaw08_EntriesTell.j0 k t377 (!t389) a0_0 a0_1 l0_2 a0_3 t366 t367 t368 t371)))) else (rialtolaw08_EntriesTell.j0 k t377 true a0_0 a0_1 l0_2 a0_3 t366 t367 t368 t371))))) else (rialtolaw08_EntriesTell.j0 k t377 true a0_0 a0_1 l0_2 a0_3 t366 t367 t368 t371)))))) = some r := H
  have A5 := Aside0.mk A50
  clear A50
  replace H := Option.bind_eq_some_iff.mp H
  obtain ⟨⟨t375, t376⟩, A60, H⟩ := H
  replace H : ((entries_From.f k t366 t367 t368 t371 a1 a2).bind fun t377 => ((entries_Check.f k t366 t367 t368 t371).bind fun t380 => ((rialtoref08_Check.f k a0_0 a0_1 l0_2 a0_3).bind fun t381 => (if t380 = t381 then ((entries_Last.f k t366 t367 t368 t371).bind fun bt382 => ((rialtoref08_Last.f k a0_0 a0_1 l0_2 a0_3).bind fun bt384 => (if (!(bt382.1 == bt384.1) || (!(bt382.2 == bt384.2))) = true then (rialtolaw08_EntriesTell.j0 k t377 true a0_0 a0_1 l0_2 a0_3 t366 t367 t368 t371) else (if t373 = t375 then (if (t374 != t376) = true then (rialtolaw08_EntriesTell.j0 k t377 true a0_0 a0_1 l0_2 a0_3 t366 t367 t368 t371) else ((rialtoref08_From.f k a0_0 a0_1 l0_2 a0_3 a1 a2).bind fun t386 => ((rialtoref08_SameEntries.f k t377 t386).bind fun t389 => (rialtolaw08_EntriesTell.j0 k t377 (!t389) a0_0 a0_1 l0_2 a0_3 t366 t367 t368 t371)))) else (rialtolaw08_EntriesTell.j0 k t377 true a0_0 a0_1 l0_2 a0_3 t366 t367 t368 t371))))) else (rialtolaw08_EntriesTell.j0 k t377 true a0_0 a0_1 l0_2 a0_3 t366 t367 t368 t371))))) = some r := H
  have A6 := Aside0.mk A60
  clear A60
  replace H := Option.bind_eq_some_iff.mp H
  obtain ⟨t377, A70, H⟩ := H
  replace H : ((entries_Check.f k t366 t367 t368 t371).bind fun t380 => ((rialtoref08_Check.f k a0_0 a0_1 l0_2 a0_3).bind fun t381 => (if t380 = t381 then ((entries_Last.f k t366 t367 t368 t371).bind fun bt382 => ((rialtoref08_Last.f k a0_0 a0_1 l0_2 a0_3).bind fun bt384 => (if (!(bt382.1 == bt384.1) || (!(bt382.2 == bt384.2))) = true then (rialtolaw08_EntriesTell.j0 k t377 true a0_0 a0_1 l0_2 a0_3 t366 t367 t368 t371) else (if t373 = t375 then (if (t374 != t376) = true then (rialtolaw08_EntriesTell.j0 k t377 true a0_0 a0_1 l0_2 a0_3 t366 t367 t368 t371) else ((rialtoref08_From.f k a0_0 a0_1 l0_2 a0_3 a1 a2).bind fun t386 => ((rialtoref08_SameEntries.f k t377 t386).bind fun t389 => (rialtolaw08_EntriesTell.j0 k t377 (!t389) a0_0 a0_1 l0_2 a0_3 t366 t367 t368 t371)))) else (rialtolaw08_EntriesTell.j0 k t377 true a0_0 a0_1 l0_2 a0_3 t366 t367 t368 t371))))) else (rialtolaw08_EntriesTell.j0 k t377 true a0_0 a0_1 l0_2 a0_3 t366 t367 t368 t371)))) = some r := H
  have A7 := Aside0.mk A70
  clear A70
  have HC8 := Aside0.mk H
  clear H
  go_enter Try.func9, Try.ntmps9
  go_upto_region 5 with (first | ((with_reducible refine gate_dst (N := 3) rfl ?_); refine box_event ?hg (N := 3) ?hd (cs := #[.int .i64 a0_0, .int .i64 a0_1, .slice A0_2 l0_2.length c0_2, .int .i64 a0_3]) (t := 26) ?hr ?_; (case hd => rfl); (case hg => rfl); (case hr => first | (go_simp; done) | (go_simp; rfl)); intro gb365 hg w9 hbox hb; have n0_ := Aside0.mk (below_step (by repeat (first | (with_reducible first | exact HB.out | apply below_alloc | apply pw_below_drewN | apply below_drew1) | exact HB.out)) hb); have n1_ := Aside0.mk (hbox); have n2_ := Aside0.mk ((by rw [hg]; exact (below_size (by repeat (first | (with_reducible first | exact HB.out | apply below_alloc | apply pw_below_drewN | apply below_drew1) | exact HB.out))) : w.heap.size ≤ gb365)); have n3_ := Aside0.mk ((by rw [hg]; exact (below_size (by repeat (first | (with_reducible first | exact HB.out | apply below_alloc | apply pw_below_drewN | apply below_drew1) | exact HB.out))) : w.heap.size ≤ gb365)); clear HB; have HB := n0_; have BK365 := n1_; have GW365 := n2_; have GE365 := n3_; clear n0_ n1_ n2_ n3_; clear hb hbox hg; have hcz10_0 : w9.cell? ⟨gb365, 0, none⟩ = some (.int .i64 a0_0) := (blk_cell BK365.out 0).trans rfl; have hcz10_1 : w9.cell? ⟨gb365, 1, none⟩ = some (.int .i64 a0_1) := (blk_cell BK365.out 1).trans rfl; have hcz10_2 : w9.cell? ⟨gb365, 2, none⟩ = some (.slice A0_2 l0_2.length c0_2) := (blk_cell BK365.out 2).trans rfl; have hcz10_3 : w9.cell? ⟨gb365, 3, none⟩ = some (.int .i64 a0_3) := (blk_cell BK365.out 3).trans rfl; have hfz10_0 := blk_frozen BK365.out 0; have hfz10_1 := blk_frozen BK365.out 1; have hfz10_2 := blk_frozen BK365.out 2; have hfz10_3 := blk_frozen BK365.out 3) | ((with_reducible refine gate_callee (f := 13) rfl ?_); refine goesL_ (some 14) rfl rfl Try.func13 (by kernel_rfl) rfl #[.agg #[.int .i64 a0_0, .int .i64 a0_1, .slice A0_2 l0_2.length c0_2, .int .i64 a0_3]] rfl (by (try simp only [List.map_toArray, List.map_cons, List.map_nil]); first | done | rfl | (simp only [List.length_drop, List.length_take]; rfl)) ?_; (with_reducible refine (rialtoref08_Copy.calls a0_0 a0_1 _ _ l0_2 a0_3 t366 t367 t368 t371 _ ?side1 ?side2 A4.out).mono ?_); (case side1 => repeat (first | exact (Kd.C_below HR0_2.out HB.out) | (with_reducible refine Kd.C_alloc ?_ _) | (with_reducible refine Kd.C_drewN ?_ _) | (with_reducible refine Kd.C_drew ?_))); (case side2 => exact HC0_2.out); rintro e w11 ⟨v369, rfl, ho0, hb⟩; refine ⟨_, rfl, ?_⟩; have n0_ := Aside0.mk (Kd.R_lower ho0 (below_size (by repeat (first | (with_reducible first | exact HB.out | apply below_alloc | apply pw_below_drewN | apply below_drew1 | refine below_set ?_ GE365.out) | exact HB.out)))); have n1_ := Aside0.mk (blk_below (g := gb365) (o := .cells #[.int .i64 a0_0, .int .i64 a0_1, .slice A0_2 l0_2.length c0_2, .int .i64 a0_3] 26 (0, 0)) (by (with_reducible repeat (first | refine blk_drewN ?_ _ | refine blk_drew ?_ | refine blk_alloc ?_ _)); exact BK365.out) hb); have n2_ := Aside0.mk (below_step (by repeat (first | (with_reducible first | exact HB.out | apply below_alloc | apply pw_below_drewN | apply below_drew1 | refine below_set ?_ GE365.out) | exact HB.out)) hb); clear BK365; clear HB; have HO370 := n0_; have BK365 := n1_; have HB := n2_; clear n0_ n1_ n2_; (try clear hb); (try clear hb2); (try clear hk); (try clear hi); (try clear ho0)) | ((with_reducible refine gate_dst (N := 7) rfl ?_); refine box_event ?hg (N := 7) ?hd (cs := #[.int .i64 0, .int .i64 0, .slice none 0 0, .int .i64 0]) (t := 26) ?hr ?_; (case hd => rfl); (case hg => rfl); (case hr => first | (go_simp; done) | (go_simp; rfl)); intro gb372 hg w12 hbox hb; have n0_ := Aside0.mk (Kd.R_below (by (with_reducible repeat (first | apply Kd.R_alloc | apply Kd.R_drewN | apply Kd.R_drew)); exact HO370.out) hb); have n1_ := Aside0.mk (blk_below (g := gb365) (o := .cells #[.int .i64 a0_0, .int .i64 a0_1, .slice A0_2 l0_2.length c0_2, .int .i64 a0_3] 26 (0, 0)) (by (with_reducible repeat (first | refine blk_drewN ?_ _ | refine blk_drew ?_ | refine blk_alloc ?_ _)); exact BK365.out) hb); have n2_ := Aside0.mk (below_step (by repeat (first | (with_reducible first | exact HB.out | apply below_alloc | apply pw_below_drewN | apply below_drew1 | refine below_set ?_ GE365.out) | exact HB.out)) hb); have n3_ := Aside0.mk (hbox); have n4_ := Aside0.mk ((by rw [hg]; exact (below_size (by repeat (first | (with_reducible first | exact HB.out | apply below_alloc | apply pw_below_drewN | apply below_drew1 | refine below_set ?_ GE365.out) | exact HB.out))) : w.heap.size ≤ gb372)); have n5_ := Aside0.mk ((by rw [hg]; exact (below_size (by repeat (first | (with_reducible first | exact HB.out | apply below_alloc | apply pw_below_drewN | apply below_drew1 | refine below_set ?_ GE365.out) | exact HB.out))) : w.heap.size ≤ gb372)); have n6_ := Aside0.mk ((by rw [hg]; exact Nat.ne_of_lt (blk_lt (g := gb365) (o := .cells #[.int .i64 a0_0, .int .i64 a0_1, .slice A0_2 l0_2.length c0_2, .int .i64 a0_3] 26 (0, 0)) (by (with_reducible repeat (first | refine blk_drewN ?_ _ | refine blk_drew ?_ | refine blk_alloc ?_ _)); exact BK365.out)) : gb365 ≠ gb372)); have n7_ := Aside0.mk ((by rw [hg]; exact Nat.ne_of_gt (blk_lt (g := gb365) (o := .cells #[.int .i64 a0_0, .int .i64 a0_1, .slice A0_2 l0_2.length c0_2, .int .i64 a0_3] 26 (0, 0)) (by (with_reducible repeat (first | refine blk_drewN ?_ _ | refine blk_drew ?_ | refine blk_alloc ?_ _)); exact BK365.out)) : gb372 ≠ gb365)); clear HO370; clear BK365; clear HB; have HO370 := n0_; have BK365 := n1_; have HB := n2_; have BK372 := n3_; have GW372 := n4_; have GE372 := n5_; have NB365_372 := n6_; have NB372_365 := n7_; clear n0_ n1_ n2_ n3_ n4_ n5_ n6_ n7_; clear hb hbox hg; have hnb13 := NB372_365.out; have hnc13 := NB365_372.out; have hcz14_0 : w12.cell? ⟨gb372, 0, none⟩ = some (.int .i64 0) := (blk_cell BK372.out 0).trans rfl; have hcz14_1 : w12.cell? ⟨gb372, 1, none⟩ = some (.int .i64 0) := (blk_cell BK372.out 1).trans rfl; have hcz14_2 : w12.cell? ⟨gb372, 2, none⟩ = some (.slice none 0 0) := (blk_cell BK372.out 2).trans rfl; have hcz14_3 : w12.cell? ⟨gb372, 3, none⟩ = some (.int .i64 0) := (blk_cell BK372.out 3).trans rfl; have hfz14_0 := blk_frozen BK372.out 0; have hfz14_1 := blk_frozen BK372.out 1; have hfz14_2 := blk_frozen BK372.out 2; have hfz14_3 := blk_frozen BK372.out 3; obtain ⟨Ao15, co15, eo15⟩ := Kd.R_slice HO370.out; subst eo15) | ((with_reducible refine gate_callee (f := 27) rfl ?_); refine goesL_ (some 18) rfl rfl Try.func27 (by kernel_rfl) rfl #[.agg #[.int .i64 t366, .int .i64 t367, .slice Ao15 t368.length co15, .int .i64 t371], .int .i64 a1] rfl (by (try simp only [List.map_toArray, List.map_cons, List.map_nil]); first | done | rfl | (simp only [List.length_drop, List.length_take]; rfl)) ?_; (with_reducible refine (entries_TermAt.calls k t366 t367 _ _ t368 t371 a1 t373 t374 _ ?side1 ?side2 A5.out).mono ?_); (case side1 => refine (Kd.R_reads' (e := 33) (base := w.heap.size) (ok := fun k_ => True) (n := t368.length) (c := co15) ?_).2.2; exact (by (with_reducible repeat (first | apply Kd.R_alloc | apply Kd.R_drewN | apply Kd.R_drew)); exact (Kd.R_mono (Kd.R_far (p := ⟨gb372, 3, none⟩) (Kd.R_far (p := ⟨gb372, 2, none⟩) (Kd.R_far (p := ⟨gb372, 1, none⟩) (Kd.R_far (p := ⟨gb372, 0, none⟩) (Kd.R_types HO370.out BK372.out (by decide)) (fun _ hk => hk.2) (.int .i64 t366)) (fun _ hk => hk.2) (.int .i64 t367)) (fun _ hk => hk.2) (.slice Ao15 t368.length co15)) (fun _ hk => hk.2) (.int .i64 t371)) (fun _ h_ => h_.1)))); (case side2 => exact (Kd.R_reads' HO370.out).2.1); rintro e w16 ⟨rfl, hb⟩; refine ⟨_, rfl, ?_⟩; have n0_ := Aside0.mk (Kd.R_below (by (with_reducible repeat (first | apply Kd.R_alloc | apply Kd.R_drewN | apply Kd.R_drew)); exact (Kd.R_mono (Kd.R_far (p := ⟨gb372, 3, none⟩) (Kd.R_far (p := ⟨gb372, 2, none⟩) (Kd.R_far (p := ⟨gb372, 1, none⟩) (Kd.R_far (p := ⟨gb372, 0, none⟩) (Kd.R_types HO370.out BK372.out (by decide)) (fun _ hk => hk.2) (.int .i64 t366)) (fun _ hk => hk.2) (.int .i64 t367)) (fun _ hk => hk.2) (.slice Ao15 t368.length co15)) (fun _ hk => hk.2) (.int .i64 t371)) (fun _ h_ => h_.1))) hb); have n1_ := Aside0.mk (blk_below (g := gb365) (o := .cells #[.int .i64 a0_0, .int .i64 a0_1, .slice A0_2 l0_2.length c0_2, .int .i64 a0_3] 26 (0, 0)) (by (with_reducible repeat (first | refine blk_drewN ?_ _ | refine blk_drew ?_ | refine blk_alloc ?_ _)); refine blk_far ?_ NB365_372.out _; (with_reducible repeat (first | refine blk_drewN ?_ _ | refine blk_drew ?_ | refine blk_alloc ?_ _)); refine blk_far ?_ NB365_372.out _; (with_reducible repeat (first | refine blk_drewN ?_ _ | refine blk_drew ?_ | refine blk_alloc ?_ _)); refine blk_far ?_ NB365_372.out _; (with_reducible repeat (first | refine blk_drewN ?_ _ | refine blk_drew ?_ | refine blk_alloc ?_ _)); refine blk_far ?_ NB365_372.out _; (with_reducible repeat (first | refine blk_drewN ?_ _ | refine blk_drew ?_ | refine blk_alloc ?_ _)); exact BK365.out) hb); have n2_ := Aside0.mk (blk_below (g := gb372) (o := .cells #[.int .i64 t366, .int .i64 t367, .slice Ao15 t368.length co15, .int .i64 t371] 26 (0, 0)) (by (with_reducible repeat (first | refine blk_drewN ?_ _ | refine blk_drew ?_ | refine blk_alloc ?_ _)); refine blk_put (cs := #[.int .i64 t366, .int .i64 t367, .slice Ao15 t368.length co15, .int .i64 0]) ?_ 3 _ rfl; (with_reducible repeat (first | refine blk_drewN ?_ _ | refine blk_drew ?_ | refine blk_alloc ?_ _)); refine blk_put (cs := #[.int .i64 t366, .int .i64 t367, .slice none 0 0, .int .i64 0]) ?_ 2 _ rfl; (with_reducible repeat (first | refine blk_drewN ?_ _ | refine blk_drew ?_ | refine blk_alloc ?_ _)); refine blk_put (cs := #[.int .i64 t366, .int .i64 0, .slice none 0 0, .int .i64 0]) ?_ 1 _ rfl; (with_reducible repeat (first | refine blk_drewN ?_ _ | refine blk_drew ?_ | refine blk_alloc ?_ _)); refine blk_put (cs := #[.int .i64 0, .int .i64 0, .slice none 0 0, .int .i64 0]) ?_ 0 _ rfl; (with_reducible repeat (first | refine blk_drewN ?_ _ | refine blk_drew ?_ | refine blk_alloc ?_ _)); exact BK372.out) hb); have n3_ := Aside0.mk (below_step (by repeat (first | (with_reducible first | exact HB.out | apply below_alloc | apply pw_below_drewN | apply below_drew1 | refine below_set ?_ GE365.out | refine below_set ?_ GE372.out) | exact HB.out)) hb); clear HO370; clear BK365; clear BK372; clear HB; have HO370 := n0_; have BK365 := n1_; have BK372 := n2_; have HB := n3_; clear n0_ n1_ n2_ n3_; (try clear hb); (try clear hb2); (try clear hk); (try clear hi); have hcz17_0 : w16.cell? ⟨gb365, 0, none⟩ = some (.int .i64 a0_0) := (blk_cell BK365.out 0).trans rfl; have hcz17_1 : w16.cell? ⟨gb365, 1, none⟩ = some (.int .i64 a0_1) := (blk_cell BK365.out 1).trans rfl; have hcz17_2 : w16.cell? ⟨gb365, 2, none⟩ = some (.slice A0_2 l0_2.length c0_2) := (blk_cell BK365.out 2).trans rfl; have hcz17_3 : w16.cell? ⟨gb365, 3, none⟩ = some (.int .i64 a0_3) := (blk_cell BK365.out 3).trans rfl; have hfz17_0 := blk_frozen BK365.out 0; have hfz17_1 := blk_frozen BK365.out 1; have hfz17_2 := blk_frozen BK365.out 2; have hfz17_3 := blk_frozen BK365.out 3) | ((with_reducible refine gate_callee (f := 28) rfl ?_); refine goesL_ (some 24) rfl rfl Try.func28 (by kernel_rfl) rfl #[.agg #[.int .i64 a0_0, .int .i64 a0_1, .slice A0_2 l0_2.length c0_2, .int .i64 a0_3], .int .i64 a1] rfl (by (try simp only [List.map_toArray, List.map_cons, List.map_nil]); first | done | rfl | (simp only [List.length_drop, List.length_take]; rfl)) ?_; (with_reducible refine (rialtoref08_TermAt.calls k a0_0 a0_1 _ _ l0_2 a0_3 a1 t375 t376 _ ?side1 ?side2 A6.out).mono ?_); (case side1 => repeat (first | exact (Kd.C_below HR0_2.out HB.out) | (with_reducible refine Kd.C_alloc ?_ _) | (with_reducible refine Kd.C_drewN ?_ _) | (with_reducible refine Kd.C_drew ?_))); (case side2 => exact HC0_2.out); rintro e w18 ⟨rfl, hb⟩; refine ⟨_, rfl, ?_⟩; have n0_ := Aside0.mk (Kd.R_below (by (with_reducible repeat (first | apply Kd.R_alloc | apply Kd.R_drewN | apply Kd.R_drew)); exact HO370.out) hb); have n1_ := Aside0.mk (blk_below (g := gb365) (o := .cells #[.int .i64 a0_0, .int .i64 a0_1, .slice A0_2 l0_2.length c0_2, .int .i64 a0_3] 26 (0, 0)) (by (with_reducible repeat (first | refine blk_drewN ?_ _ | refine blk_drew ?_ | refine blk_alloc ?_ _)); exact BK365.out) hb); have n2_ := Aside0.mk (blk_below (g := gb372) (o := .cells #[.int .i64 t366, .int .i64 t367, .slice Ao15 t368.length co15, .int .i64 t371] 26 (0, 0)) (by (with_reducible repeat (first | refine blk_drewN ?_ _ | refine blk_drew ?_ | refine blk_alloc ?_ _)); exact BK372.out) hb); have n3_ := Aside0.mk (below_step (by repeat (first | (with_reducible first | exact HB.out | apply below_alloc | apply pw_below_drewN | apply below_drew1 | refine below_set ?_ GE365.out | refine below_set ?_ GE372.out) | exact HB.out)) hb); clear HO370; clear BK365; clear BK372; clear HB; have HO370 := n0_; have BK365 := n1_; have BK372 := n2_; have HB := n3_; clear n0_ n1_ n2_ n3_; (try clear hb); (try clear hb2); (try clear hk); (try clear hi); have hcz19_0 : w18.cell? ⟨gb372, 0, none⟩ = some (.int .i64 t366) := (blk_cell BK372.out 0).trans rfl; have hcz19_1 : w18.cell? ⟨gb372, 1, none⟩ = some (.int .i64 t367) := (blk_cell BK372.out 1).trans rfl; have hcz19_2 : w18.cell? ⟨gb372, 2, none⟩ = some (.slice Ao15 t368.length co15) := (blk_cell BK372.out 2).trans rfl; have hcz19_3 : w18.cell? ⟨gb372, 3, none⟩ = some (.int .i64 t371) := (blk_cell BK372.out 3).trans rfl; have hfz19_0 := blk_frozen BK372.out 0; have hfz19_1 := blk_frozen BK372.out 1; have hfz19_2 := blk_frozen BK372.out 2; have hfz19_3 := blk_frozen BK372.out 3) | ((with_reducible refine gate_callee (f := 29) rfl ?_); refine goesL_ (some 30) rfl rfl Try.func29 (by kernel_rfl) rfl #[.agg #[.int .i64 t366, .int .i64 t367, .slice Ao15 t368.length co15, .int .i64 t371], .int .i64 a1, .int .i64 a2] rfl (by (try simp only [List.map_toArray, List.map_cons, List.map_nil]); first | done | rfl | (simp only [List.length_drop, List.length_take]; rfl)) ?_; (with_reducible refine (entries_From.calls k t366 t367 _ _ t368 t371 a1 a2 t377 _ ?side1 ?side2 A7.out).mono ?_); (case side1 => repeat (first | exact (Kd.R_reads' HO370.out).2.2 | (with_reducible refine Kd.C_alloc ?_ _) | (with_reducible refine Kd.C_drewN ?_ _) | (with_reducible refine Kd.C_drew ?_))); (case side2 => exact (Kd.R_reads' HO370.out).2.1); rintro e w20 ⟨v378, rfl, ho0, hb⟩; refine ⟨_, rfl, ?_⟩; have n0_ := Aside0.mk (Kd.R_elder' (by (with_reducible repeat (first | apply Kd.R_alloc | apply Kd.R_drewN | apply Kd.R_drew)); exact HO370.out) (Kd.R_base ho0) hb); have n1_ := Aside0.mk (Kd.R_lower (Kd.R_new' ho0 (Kd.R_lt (by (with_reducible repeat (first | apply Kd.R_alloc | apply Kd.R_drewN | apply Kd.R_drew)); exact HO370.out))) (below_size (by repeat (first | (with_reducible first | exact HB.out | apply below_alloc | apply pw_below_drewN | apply below_drew1 | refine below_set ?_ GE365.out | refine below_set ?_ GE372.out) | exact HB.out)))); have n2_ := Aside0.mk (blk_below (g := gb365) (o := .cells #[.int .i64 a0_0, .int .i64 a0_1, .slice A0_2 l0_2.length c0_2, .int .i64 a0_3] 26 (0, 0)) (by (with_reducible repeat (first | refine blk_drewN ?_ _ | refine blk_drew ?_ | refine blk_alloc ?_ _)); exact BK365.out) hb); have n3_ := Aside0.mk (blk_below (g := gb372) (o := .cells #[.int .i64 t366, .int .i64 t367, .slice Ao15 t368.length co15, .int .i64 t371] 26 (0, 0)) (by (with_reducible repeat (first | refine blk_drewN ?_ _ | refine blk_drew ?_ | refine blk_alloc ?_ _)); exact BK372.out) hb); have n4_ := Aside0.mk (below_step (by repeat (first | (with_reducible first | exact HB.out | apply below_alloc | apply pw_below_drewN | apply below_drew1 | refine below_set ?_ GE365.out | refine below_set ?_ GE372.out) | exact HB.out)) hb); clear HO370; clear BK365; clear BK372; clear HB; have HO370 := n0_; have HO379 := n1_; have BK365 := n2_; have BK372 := n3_; have HB := n4_; clear n0_ n1_ n2_ n3_ n4_; (try clear hb); (try clear hb2); (try clear hk); (try clear hi); (try clear ho0)))
  (try simp only [Act.put, List.setIfInBounds_toArray, List.set_cons_zero, List.set_cons_succ])
  go_cut [61] (fun v61 wc => ∃ (kq : Nat) (x61_7 : Bool), v61 = .bool x61_7 ∧ Aside0 (rialtolaw08_EntriesTell.j0 kq t377 x61_7 a0_0 a0_1 l0_2 a0_3 t366 t367 t368 t371 = some r) ∧ Aside0 (kq ≤ k) ∧ Aside0 (Kd.R k33 33 wc w.heap.size (fun k_ => some k_ ≠ ((.slice Ao15 t368.length co15) : Value).ownBlock) v378 t377) ∧ Aside0 (Kd.R k33 33 wc w.heap.size (fun k_ => some k_ ≠ (v378 : Value).ownBlock) (.slice Ao15 t368.length co15) t368) ∧ Aside0 (wc.heap[gb365]? = some (.cells #[.int .i64 a0_0, .int .i64 a0_1, (.slice A0_2 l0_2.length c0_2), .int .i64 a0_3] 26 (0, 0))) ∧ Aside0 (wc.heap[gb372]? = some (.cells #[.int .i64 t366, .int .i64 t367, (.slice Ao15 t368.length co15), .int .i64 t371] 26 (0, 0))) ∧ Aside0 (Below w.heap.size w wc))
  case first =>
    have H := HC8.out
    clear HC8
    replace H := Option.bind_eq_some_iff.mp H
    obtain ⟨t380, A210, H⟩ := H
    replace H : ((rialtoref08_Check.f k a0_0 a0_1 l0_2 a0_3).bind fun t381 => (if t380 = t381 then ((entries_Last.f k t366 t367 t368 t371).bind fun bt382 => ((rialtoref08_Last.f k a0_0 a0_1 l0_2 a0_3).bind fun bt384 => (if (!(bt382.1 == bt384.1) || (!(bt382.2 == bt384.2))) = true then (rialtolaw08_EntriesTell.j0 k t377 true a0_0 a0_1 l0_2 a0_3 t366 t367 t368 t371) else (if t373 = t375 then (if (t374 != t376) = true then (rialtolaw08_EntriesTell.j0 k t377 true a0_0 a0_1 l0_2 a0_3 t366 t367 t368 t371) else ((rialtoref08_From.f k a0_0 a0_1 l0_2 a0_3 a1 a2).bind fun t386 => ((rialtoref08_SameEntries.f k t377 t386).bind fun t389 => (rialtolaw08_EntriesTell.j0 k t377 (!t389) a0_0 a0_1 l0_2 a0_3 t366 t367 t368 t371)))) else (rialtolaw08_EntriesTell.j0 k t377 true a0_0 a0_1 l0_2 a0_3 t366 t367 t368 t371))))) else (rialtolaw08_EntriesTell.j0 k t377 true a0_0 a0_1 l0_2 a0_3 t366 t367 t368 t371))) = some r := H
    have A21 := Aside0.mk A210
    clear A210
    replace H := Option.bind_eq_some_iff.mp H
    obtain ⟨t381, A220, H⟩ := H
    replace H : (if t380 = t381 then ((entries_Last.f k t366 t367 t368 t371).bind fun bt382 => ((rialtoref08_Last.f k a0_0 a0_1 l0_2 a0_3).bind fun bt384 => (if (!(bt382.1 == bt384.1) || (!(bt382.2 == bt384.2))) = true then (rialtolaw08_EntriesTell.j0 k t377 true a0_0 a0_1 l0_2 a0_3 t366 t367 t368 t371) else (if t373 = t375 then (if (t374 != t376) = true then (rialtolaw08_EntriesTell.j0 k t377 true a0_0 a0_1 l0_2 a0_3 t366 t367 t368 t371) else ((rialtoref08_From.f k a0_0 a0_1 l0_2 a0_3 a1 a2).bind fun t386 => ((rialtoref08_SameEntries.f k t377 t386).bind fun t389 => (rialtolaw08_EntriesTell.j0 k t377 (!t389) a0_0 a0_1 l0_2 a0_3 t366 t367 t368 t371)))) else (rialtolaw08_EntriesTell.j0 k t377 true a0_0 a0_1 l0_2 a0_3 t366 t367 t368 t371))))) else (rialtolaw08_EntriesTell.j0 k t377 true a0_0 a0_1 l0_2 a0_3 t366 t367 t368 t371)) = some r := H
    have A22 := Aside0.mk A220
    clear A220
    by_cases c23 : t380 = t381
    focus
      rw [if_pos c23] at H
      have c23b0 : (t380 == t381) = true := beq_iff_eq.mpr c23
      have c23b1 : (t380 != t381) = false := bne_eq_false_iff_eq.mpr c23
      clear c23
      (first | rw [c23b0] | (simp only [i64_w, i32_w]; rw [c23b0]) | skip)
      replace H := Option.bind_eq_some_iff.mp H
      obtain ⟨⟨t382, t383⟩, A240, H⟩ := H
      replace H : ((rialtoref08_Last.f k a0_0 a0_1 l0_2 a0_3).bind fun bt384 => (if (!(t382 == bt384.1) || (!(t383 == bt384.2))) = true then (rialtolaw08_EntriesTell.j0 k t377 true a0_0 a0_1 l0_2 a0_3 t366 t367 t368 t371) else (if t373 = t375 then (if (t374 != t376) = true then (rialtolaw08_EntriesTell.j0 k t377 true a0_0 a0_1 l0_2 a0_3 t366 t367 t368 t371) else ((rialtoref08_From.f k a0_0 a0_1 l0_2 a0_3 a1 a2).bind fun t386 => ((rialtoref08_SameEntries.f k t377 t386).bind fun t389 => (rialtolaw08_EntriesTell.j0 k t377 (!t389) a0_0 a0_1 l0_2 a0_3 t366 t367 t368 t371)))) else (rialtolaw08_EntriesTell.j0 k t377 true a0_0 a0_1 l0_2 a0_3 t366 t367 t368 t371)))) = some r := H
      have A24 := Aside0.mk A240
      clear A240
      replace H := Option.bind_eq_some_iff.mp H
      obtain ⟨⟨t384, t385⟩, A250, H⟩ := H
      replace H : (if (!(t382 == t384) || (!(t383 == t385))) = true then (rialtolaw08_EntriesTell.j0 k t377 true a0_0 a0_1 l0_2 a0_3 t366 t367 t368 t371) else (if t373 = t375 then (if (t374 != t376) = true then (rialtolaw08_EntriesTell.j0 k t377 true a0_0 a0_1 l0_2 a0_3 t366 t367 t368 t371) else ((rialtoref08_From.f k a0_0 a0_1 l0_2 a0_3 a1 a2).bind fun t386 => ((rialtoref08_SameEntries.f k t377 t386).bind fun t389 => (rialtolaw08_EntriesTell.j0 k t377 (!t389) a0_0 a0_1 l0_2 a0_3 t366 t367 t368 t371)))) else (rialtolaw08_EntriesTell.j0 k t377 true a0_0 a0_1 l0_2 a0_3 t366 t367 t368 t371))) = some r := H
      have A25 := Aside0.mk A250
      clear A250
      by_cases c26 : (!(t382 == t384) || (!(t383 == t385))) = true
      focus
        rw [if_pos c26] at H
        have c26b0 : (!(t382 == t384) || (!(t383 == t385))) = true := c26
        clear c26
        have H' := Aside0.mk H
        clear H
      rotate_left 1
      focus
        rw [if_neg c26] at H
        have c26b0 : (!(t382 == t384) || (!(t383 == t385))) = false := by simpa using c26
        clear c26
        by_cases c32 : t373 = t375
        focus
          rw [if_pos c32] at H
          have c32b0 : (t373 == t375) = true := beq_iff_eq.mpr c32
          have c32b1 : (t373 != t375) = false := bne_eq_false_iff_eq.mpr c32
          clear c32
          by_cases c33 : (t374 != t376) = true
          focus
            rw [if_pos c33] at H
            have c33b0 : (t374 != t376) = true := c33
          rotate_left 1
          focus
            rw [if_neg c33] at H
            have c33b0 : (t374 != t376) = false := by simpa using c33
          rotate_left 1
        rotate_left 2
        focus
          rw [if_neg c32] at H
          have c32b0 : (t373 == t375) = false := beq_eq_false_iff_ne.mpr c32
          have c32b1 : (t373 != t375) = true := bne_iff_ne.mpr c32
          have H' := Aside0.mk H
          clear H
        rotate_left 1
      rotate_left 3
    rotate_left 4
    focus
      rw [if_neg c23] at H
      have c23b0 : (t380 == t381) = false := beq_eq_false_iff_ne.mpr c23
      have c23b1 : (t380 != t381) = true := bne_iff_ne.mpr c23
      (first | rw [c23b0] | (simp only [i64_w, i32_w]; rw [c23b0]) | skip)
      have H' := Aside0.mk H
      clear H
    rotate_left 1
    focus
      try go_wp2
      have n0_ := Aside0.mk (Kd.R_drew HO370.out)
      have n1_ := Aside0.mk (Kd.R_drew HO379.out)
      have n2_ := Aside0.mk (blk_drew BK365.out)
      have n3_ := Aside0.mk (blk_drew BK372.out)
      have n4_ := Aside0.mk (below_drew1 HB.out)
      clear HO370
      clear HO379
      clear BK365
      clear BK372
      clear HB
      have HO370 := n0_
      have HO379 := n1_
      have BK365 := n2_
      have BK372 := n3_
      have HB := n4_
      clear n0_ n1_ n2_ n3_ n4_
      refine start_ (n := 31) (S := fun w' => w'.cell? ⟨gb372, 0, none⟩ = some (.int .i64 t366) ∧ w'.cell? ⟨gb372, 1, none⟩ = some (.int .i64 t367) ∧ w'.cell? ⟨gb372, 2, none⟩ = some (.slice Ao15 t368.length co15) ∧ w'.cell? ⟨gb372, 3, none⟩ = some (.int .i64 t371) ∧ w'.cell? ⟨gb365, 0, none⟩ = some (.int .i64 a0_0) ∧ w'.cell? ⟨gb365, 1, none⟩ = some (.int .i64 a0_1) ∧ w'.cell? ⟨gb365, 2, none⟩ = some (.slice A0_2 l0_2.length c0_2) ∧ w'.cell? ⟨gb365, 3, none⟩ = some (.int .i64 a0_3)) (ds := []) #[false, false, false, false, false, false, false, false, false, false, false, false, false, false, false, false, false, false, false, false, false, false, false, false, false, false, false, false, false, false, false] (by kernel_rfl) rfl rfl ⟨(blk_cell BK372.out 0).trans rfl, (blk_cell BK372.out 1).trans rfl, (blk_cell BK372.out 2).trans rfl, (blk_cell BK372.out 3).trans rfl, (blk_cell BK365.out 0).trans rfl, (blk_cell BK365.out 1).trans rfl, (blk_cell BK365.out 2).trans rfl, (blk_cell BK365.out 3).trans rfl⟩ (fun hHeld => ?_); refine with_tabW rialtolaw08_EntriesTell.tab5 rialtolaw08_EntriesTell.bits5 (fun HT_ HW_ => ?_)
      generalize w20.drew = wyi0 at HO370 HO379 BK365 BK372 HB hHeld ⊢
      refine stepT8 HT_ HW_ 0 (some 31) hHeld ?_
      refine stepT8 HT_ HW_ 2 (some 33) hHeld ?_
      refine one_ (i := 1) (N := some 32) #[true, true, true, false, false, false, false, false, false, false, false, false, false, false, false, false, false, false, false, false, false, false, false, false, false, false, false, false, false, false, false] rfl rfl (one_of HT_.out (by kernel_rfl)) (by decide) (fun K hK => ?_)
      refine goes_ Try.func30 (by kernel_rfl) rfl #[.agg #[.int .i64 t366, .int .i64 t367, .slice Ao15 t368.length co15, .int .i64 t371]] (by rfl) rfl rfl (by (try simp only [List.map_toArray, List.map_cons, List.map_nil]); first | done | rfl | (simp only [List.length_drop, List.length_take]; rfl)) ?_
      with_reducible refine (entries_Check.calls k t366 t367 _ _ t368 t371 t380 _ ?side1 ?side2 A21.out).mono ?_
      (case side1 => repeat (first | exact (Kd.R_reads' HO370.out).2.2 | (with_reducible refine Kd.C_alloc ?_ _) | (with_reducible refine Kd.C_drewN ?_ _) | (with_reducible refine Kd.C_drew ?_)))
      (case side2 => exact (Kd.R_reads' HO370.out).2.1)
      rintro e wyi1 ⟨rfl, hb⟩
      refine ⟨_, rfl, ?_⟩
      have n0_ := Aside0.mk (Kd.R_below (by (with_reducible repeat (first | apply Kd.R_alloc | apply Kd.R_drewN | apply Kd.R_drew)); exact HO370.out) hb)
      have n1_ := Aside0.mk (Kd.R_below (by (with_reducible repeat (first | apply Kd.R_alloc | apply Kd.R_drewN | apply Kd.R_drew)); exact HO379.out) hb)
      have n2_ := Aside0.mk (blk_below (g := gb365) (o := .cells #[.int .i64 a0_0, .int .i64 a0_1, .slice A0_2 l0_2.length c0_2, .int .i64 a0_3] 26 (0, 0)) (by (with_reducible repeat (first | refine blk_drewN ?_ _ | refine blk_drew ?_ | refine blk_alloc ?_ _)); exact BK365.out) hb)
      have n3_ := Aside0.mk (blk_below (g := gb372) (o := .cells #[.int .i64 t366, .int .i64 t367, .slice Ao15 t368.length co15, .int .i64 t371] 26 (0, 0)) (by (with_reducible repeat (first | refine blk_drewN ?_ _ | refine blk_drew ?_ | refine blk_alloc ?_ _)); exact BK372.out) hb)
      have n4_ := Aside0.mk (below_step (by repeat (first | (with_reducible first | exact HB.out | apply below_alloc | apply pw_below_drewN | apply below_drew1 | refine below_set ?_ GE365.out | refine below_set ?_ GE372.out) | exact HB.out)) hb)
      clear HO370
      clear HO379
      clear BK365
      clear BK372
      clear HB
      have HO370 := n0_
      have HO379 := n1_
      have BK365 := n2_
      have BK372 := n3_
      have HB := n4_
      clear n0_ n1_ n2_ n3_ n4_
      (try clear hb)
      (try clear hb2)
      (try clear hk)
      (try clear hi)
      refine hK.out _ _ ⟨(blk_cell BK372.out 0).trans rfl, (blk_cell BK372.out 1).trans rfl, (blk_cell BK372.out 2).trans rfl, (blk_cell BK372.out 3).trans rfl, (blk_cell BK365.out 0).trans rfl, (blk_cell BK365.out 1).trans rfl, (blk_cell BK365.out 2).trans rfl, (blk_cell BK365.out 3).trans rfl⟩ (fun hHeld => ?_)
      clear hK K
      refine norm_ (a' := ?_) ?_ ?_
      rotate_left
      · show Act.put _ (some 32) _ = _
        simp only [Act.put, List.setIfInBounds_toArray, List.set_cons_zero, List.set_cons_succ, i64_w, i32_w]
        rfl
      refine one_ (i := 3) (N := some 34) #[true, true, true, true, false, false, false, false, false, false, false, false, false, false, false, false, false, false, false, false, false, false, false, false, false, false, false, false, false, false, false] rfl rfl (one_of HT_.out (by kernel_rfl)) (by decide) (fun K hK => ?_)
      refine goes_ Try.func31 (by kernel_rfl) rfl #[.agg #[.int .i64 a0_0, .int .i64 a0_1, .slice A0_2 l0_2.length c0_2, .int .i64 a0_3]] (by rfl) rfl rfl (by (try simp only [List.map_toArray, List.map_cons, List.map_nil]); first | done | rfl | (simp only [List.length_drop, List.length_take]; rfl)) ?_
      with_reducible refine (rialtoref08_Check.calls k a0_0 a0_1 _ _ l0_2 a0_3 t381 _ ?side1 ?side2 A22.out).mono ?_
      (case side1 => repeat (first | exact (Kd.C_below HR0_2.out HB.out) | (with_reducible refine Kd.C_alloc ?_ _) | (with_reducible refine Kd.C_drewN ?_ _) | (with_reducible refine Kd.C_drew ?_)))
      (case side2 => exact HC0_2.out)
      rintro e wyi2 ⟨rfl, hb⟩
      refine ⟨_, rfl, ?_⟩
      have n0_ := Aside0.mk (Kd.R_below (by (with_reducible repeat (first | apply Kd.R_alloc | apply Kd.R_drewN | apply Kd.R_drew)); exact HO370.out) hb)
      have n1_ := Aside0.mk (Kd.R_below (by (with_reducible repeat (first | apply Kd.R_alloc | apply Kd.R_drewN | apply Kd.R_drew)); exact HO379.out) hb)
      have n2_ := Aside0.mk (blk_below (g := gb365) (o := .cells #[.int .i64 a0_0, .int .i64 a0_1, .slice A0_2 l0_2.length c0_2, .int .i64 a0_3] 26 (0, 0)) (by (with_reducible repeat (first | refine blk_drewN ?_ _ | refine blk_drew ?_ | refine blk_alloc ?_ _)); exact BK365.out) hb)
      have n3_ := Aside0.mk (blk_below (g := gb372) (o := .cells #[.int .i64 t366, .int .i64 t367, .slice Ao15 t368.length co15, .int .i64 t371] 26 (0, 0)) (by (with_reducible repeat (first | refine blk_drewN ?_ _ | refine blk_drew ?_ | refine blk_alloc ?_ _)); exact BK372.out) hb)
      have n4_ := Aside0.mk (below_step (by repeat (first | (with_reducible first | exact HB.out | apply below_alloc | apply pw_below_drewN | apply below_drew1 | refine below_set ?_ GE365.out | refine below_set ?_ GE372.out) | exact HB.out)) hb)
      clear HO370
      clear HO379
      clear BK365
      clear BK372
      clear HB
      have HO370 := n0_
      have HO379 := n1_
      have BK365 := n2_
      have BK372 := n3_
      have HB := n4_
      clear n0_ n1_ n2_ n3_ n4_
      (try clear hb)
      (try clear hb2)
      (try clear hk)
      (try clear hi)
      refine hK.out _ _ ⟨(blk_cell BK372.out 0).trans rfl, (blk_cell BK372.out 1).trans rfl, (blk_cell BK372.out 2).trans rfl, (blk_cell BK372.out 3).trans rfl, (blk_cell BK365.out 0).trans rfl, (blk_cell BK365.out 1).trans rfl, (blk_cell BK365.out 2).trans rfl, (blk_cell BK365.out 3).trans rfl⟩ (fun hHeld => ?_)
      clear hK K
      refine norm_ (a' := ?_) ?_ ?_
      rotate_left
      · show Act.put _ (some 34) _ = _
        simp only [Act.put, List.setIfInBounds_toArray, List.set_cons_zero, List.set_cons_succ, i64_w, i32_w]
        rfl
      refine stepP HT_ 4 (some 35) ?_
      refine stepP HT_ 5 (some 36) ?_
      refine stepT8 HT_ HW_ 6 (some 37) hHeld ?_
      refine stepT8 HT_ HW_ 8 (some 39) hHeld ?_
      refine one_ (i := 7) (N := some 38) #[true, true, true, true, true, true, true, true, true, false, false, false, false, false, false, false, false, false, false, false, false, false, false, false, false, false, false, false, false, false, false] rfl rfl (one_of HT_.out (by kernel_rfl)) (by decide) (fun K hK => ?_)
      refine goes_ Try.func32 (by kernel_rfl) rfl #[.agg #[.int .i64 t366, .int .i64 t367, .slice Ao15 t368.length co15, .int .i64 t371]] (by rfl) rfl rfl (by (try simp only [List.map_toArray, List.map_cons, List.map_nil]); first | done | rfl | (simp only [List.length_drop, List.length_take]; rfl)) ?_
      with_reducible refine (entries_Last.calls k t366 t367 _ _ t368 t371 t382 t383 _ ?side1 ?side2 A24.out).mono ?_
      (case side1 => repeat (first | exact (Kd.R_reads' HO370.out).2.2 | (with_reducible refine Kd.C_alloc ?_ _) | (with_reducible refine Kd.C_drewN ?_ _) | (with_reducible refine Kd.C_drew ?_)))
      (case side2 => exact (Kd.R_reads' HO370.out).2.1)
      rintro e wyi3 ⟨rfl, hb⟩
      refine ⟨_, rfl, ?_⟩
      have n0_ := Aside0.mk (Kd.R_below (by (with_reducible repeat (first | apply Kd.R_alloc | apply Kd.R_drewN | apply Kd.R_drew)); exact HO370.out) hb)
      have n1_ := Aside0.mk (Kd.R_below (by (with_reducible repeat (first | apply Kd.R_alloc | apply Kd.R_drewN | apply Kd.R_drew)); exact HO379.out) hb)
      have n2_ := Aside0.mk (blk_below (g := gb365) (o := .cells #[.int .i64 a0_0, .int .i64 a0_1, .slice A0_2 l0_2.length c0_2, .int .i64 a0_3] 26 (0, 0)) (by (with_reducible repeat (first | refine blk_drewN ?_ _ | refine blk_drew ?_ | refine blk_alloc ?_ _)); exact BK365.out) hb)
      have n3_ := Aside0.mk (blk_below (g := gb372) (o := .cells #[.int .i64 t366, .int .i64 t367, .slice Ao15 t368.length co15, .int .i64 t371] 26 (0, 0)) (by (with_reducible repeat (first | refine blk_drewN ?_ _ | refine blk_drew ?_ | refine blk_alloc ?_ _)); exact BK372.out) hb)
      have n4_ := Aside0.mk (below_step (by repeat (first | (with_reducible first | exact HB.out | apply below_alloc | apply pw_below_drewN | apply below_drew1 | refine below_set ?_ GE365.out | refine below_set ?_ GE372.out) | exact HB.out)) hb)
      clear HO370
      clear HO379
      clear BK365
      clear BK372
      clear HB
      have HO370 := n0_
      have HO379 := n1_
      have BK365 := n2_
      have BK372 := n3_
      have HB := n4_
      clear n0_ n1_ n2_ n3_ n4_
      (try clear hb)
      (try clear hb2)
      (try clear hk)
      (try clear hi)
      refine hK.out _ _ ⟨(blk_cell BK372.out 0).trans rfl, (blk_cell BK372.out 1).trans rfl, (blk_cell BK372.out 2).trans rfl, (blk_cell BK372.out 3).trans rfl, (blk_cell BK365.out 0).trans rfl, (blk_cell BK365.out 1).trans rfl, (blk_cell BK365.out 2).trans rfl, (blk_cell BK365.out 3).trans rfl⟩ (fun hHeld => ?_)
      clear hK K
      refine norm_ (a' := ?_) ?_ ?_
      rotate_left
      · show Act.put _ (some 38) _ = _
        simp only [Act.put, List.setIfInBounds_toArray, List.set_cons_zero, List.set_cons_succ, i64_w, i32_w]
        rfl
      refine one_ (i := 9) (N := some 40) #[true, true, true, true, true, true, true, true, true, true, false, false, false, false, false, false, false, false, false, false, false, false, false, false, false, false, false, false, false, false, false] rfl rfl (one_of HT_.out (by kernel_rfl)) (by decide) (fun K hK => ?_)
      refine goes_ Try.func33 (by kernel_rfl) rfl #[.agg #[.int .i64 a0_0, .int .i64 a0_1, .slice A0_2 l0_2.length c0_2, .int .i64 a0_3]] (by rfl) rfl rfl (by (try simp only [List.map_toArray, List.map_cons, List.map_nil]); first | done | rfl | (simp only [List.length_drop, List.length_take]; rfl)) ?_
      with_reducible refine (rialtoref08_Last.calls k a0_0 a0_1 _ _ l0_2 a0_3 t384 t385 _ ?side1 ?side2 A25.out).mono ?_
      (case side1 => repeat (first | exact (Kd.C_below HR0_2.out HB.out) | (with_reducible refine Kd.C_alloc ?_ _) | (with_reducible refine Kd.C_drewN ?_ _) | (with_reducible refine Kd.C_drew ?_)))
      (case side2 => exact HC0_2.out)
      rintro e wyi4 ⟨rfl, hb⟩
      refine ⟨_, rfl, ?_⟩
      have n0_ := Aside0.mk (Kd.R_below (by (with_reducible repeat (first | apply Kd.R_alloc | apply Kd.R_drewN | apply Kd.R_drew)); exact HO370.out) hb)
      have n1_ := Aside0.mk (Kd.R_below (by (with_reducible repeat (first | apply Kd.R_alloc | apply Kd.R_drewN | apply Kd.R_drew)); exact HO379.out) hb)
      have n2_ := Aside0.mk (blk_below (g := gb365) (o := .cells #[.int .i64 a0_0, .int .i64 a0_1, .slice A0_2 l0_2.length c0_2, .int .i64 a0_3] 26 (0, 0)) (by (with_reducible repeat (first | refine blk_drewN ?_ _ | refine blk_drew ?_ | refine blk_alloc ?_ _)); exact BK365.out) hb)
      have n3_ := Aside0.mk (blk_below (g := gb372) (o := .cells #[.int .i64 t366, .int .i64 t367, .slice Ao15 t368.length co15, .int .i64 t371] 26 (0, 0)) (by (with_reducible repeat (first | refine blk_drewN ?_ _ | refine blk_drew ?_ | refine blk_alloc ?_ _)); exact BK372.out) hb)
      have n4_ := Aside0.mk (below_step (by repeat (first | (with_reducible first | exact HB.out | apply below_alloc | apply pw_below_drewN | apply below_drew1 | refine below_set ?_ GE365.out | refine below_set ?_ GE372.out) | exact HB.out)) hb)
      clear HO370
      clear HO379
      clear BK365
      clear BK372
      clear HB
      have HO370 := n0_
      have HO379 := n1_
      have BK365 := n2_
      have BK372 := n3_
      have HB := n4_
      clear n0_ n1_ n2_ n3_ n4_
      (try clear hb)
      (try clear hb2)
      (try clear hk)
      (try clear hi)
      refine hK.out _ _ ⟨(blk_cell BK372.out 0).trans rfl, (blk_cell BK372.out 1).trans rfl, (blk_cell BK372.out 2).trans rfl, (blk_cell BK372.out 3).trans rfl, (blk_cell BK365.out 0).trans rfl, (blk_cell BK365.out 1).trans rfl, (blk_cell BK365.out 2).trans rfl, (blk_cell BK365.out 3).trans rfl⟩ (fun hHeld => ?_)
      clear hK K
      refine norm_ (a' := ?_) ?_ ?_
      rotate_left
      · show Act.put _ (some 40) _ = _
        simp only [Act.put, List.setIfInBounds_toArray, List.set_cons_zero, List.set_cons_succ, i64_w, i32_w]
        rfl
      refine stepP HT_ 10 (some 41) ?_
      refine stepP HT_ 11 (some 42) ?_
      refine stepP HT_ 12 (some 43) ?_
      refine stepU HT_ 13 (some 44) ?_
      refine stepU HT_ 14 (some 45) ?_
      refine stepU HT_ 15 (some 46) ?_
      refine stepP HT_ 16 (some 47) ?_
      refine stepP HT_ 17 (some 48) ?_
      refine stepU HT_ 18 (some 49) ?_
      refine stepU HT_ 19 (some 50) ?_
      refine stepU HT_ 20 (some 51) ?_
      refine stepP HT_ 21 (some 52) ?_
      refine stepP HT_ 22 (some 53) ?_
      refine stepU HT_ 23 (some 54) ?_
      refine stepU HT_ 24 (some 55) ?_
      refine stepU HT_ 25 (some 56) ?_
      refine stepU HT_ 26 (some 57) ?_
      refine stepU HT_ 27 (some 58) ?_
      refine stepU HT_ 28 (some 59) ?_
      refine stepU HT_ 29 (some 60) ?_
      refine stepP HT_ 30 (some 61) ?_
      refine done_ (done_of HT_.out (by kernel_rfl)) ?_
      try go_wp2
      go_meet
      case rel => exact ⟨_, (true), (by first | rfl | (simp; done) | (simp [*]; done)), H', ⟨by first | omega | exact Nat.le_refl _⟩, ⟨by (with_reducible repeat (first | apply Kd.R_alloc | apply Kd.R_drewN | apply Kd.R_drew)); exact Kd.R_mono HO379.out (fun _ hk => hk.2)⟩, ⟨by (with_reducible repeat (first | apply Kd.R_alloc | apply Kd.R_drewN | apply Kd.R_drew)); exact Kd.R_mono HO370.out (fun _ hk => hk.2)⟩, ⟨by (with_reducible repeat (first | refine blk_drewN ?_ _ | refine blk_drew ?_ | refine blk_alloc ?_ _)); exact BK365.out⟩, ⟨by (with_reducible repeat (first | refine blk_drewN ?_ _ | refine blk_drew ?_ | refine blk_alloc ?_ _)); exact BK372.out⟩, ⟨by repeat (first | (with_reducible first | exact HB.out | apply below_alloc | apply pw_below_drewN | apply below_drew1 | refine below_set ?_ GE365.out | refine below_set ?_ GE372.out) | exact HB.out)⟩⟩
    focus
      (try (have c33b1 : decide (t374 = t376) = false := by simpa using c33))
      (try (have c33b2 : (t374 == t376) = false := by simpa using c33))
      (try (have c33b3 : ¬ (t374 = t376) := by simpa using c33))
      clear c33
      have H' := Aside0.mk H
      clear H
      try go_wp2
      have n0_ := Aside0.mk (Kd.R_drew HO370.out)
      have n1_ := Aside0.mk (Kd.R_drew HO379.out)
      have n2_ := Aside0.mk (blk_drew BK365.out)
      have n3_ := Aside0.mk (blk_drew BK372.out)
      have n4_ := Aside0.mk (below_drew1 HB.out)
      clear HO370
      clear HO379
      clear BK365
      clear BK372
      clear HB
      have HO370 := n0_
      have HO379 := n1_
      have BK365 := n2_
      have BK372 := n3_
      have HB := n4_
      clear n0_ n1_ n2_ n3_ n4_
      refine start_ (n := 31) (S := fun w' => w'.cell? ⟨gb372, 0, none⟩ = some (.int .i64 t366) ∧ w'.cell? ⟨gb372, 1, none⟩ = some (.int .i64 t367) ∧ w'.cell? ⟨gb372, 2, none⟩ = some (.slice Ao15 t368.length co15) ∧ w'.cell? ⟨gb372, 3, none⟩ = some (.int .i64 t371) ∧ w'.cell? ⟨gb365, 0, none⟩ = some (.int .i64 a0_0) ∧ w'.cell? ⟨gb365, 1, none⟩ = some (.int .i64 a0_1) ∧ w'.cell? ⟨gb365, 2, none⟩ = some (.slice A0_2 l0_2.length c0_2) ∧ w'.cell? ⟨gb365, 3, none⟩ = some (.int .i64 a0_3)) (ds := []) #[false, false, false, false, false, false, false, false, false, false, false, false, false, false, false, false, false, false, false, false, false, false, false, false, false, false, false, false, false, false, false] (by kernel_rfl) rfl rfl ⟨(blk_cell BK372.out 0).trans rfl, (blk_cell BK372.out 1).trans rfl, (blk_cell BK372.out 2).trans rfl, (blk_cell BK372.out 3).trans rfl, (blk_cell BK365.out 0).trans rfl, (blk_cell BK365.out 1).trans rfl, (blk_cell BK365.out 2).trans rfl, (blk_cell BK365.out 3).trans rfl⟩ (fun hHeld => ?_); refine with_tabW rialtolaw08_EntriesTell.tab5 rialtolaw08_EntriesTell.bits5 (fun HT_ HW_ => ?_)
      generalize w20.drew = wyi0 at HO370 HO379 BK365 BK372 HB hHeld ⊢
      refine stepT8 HT_ HW_ 0 (some 31) hHeld ?_
      refine stepT8 HT_ HW_ 2 (some 33) hHeld ?_
      refine one_ (i := 1) (N := some 32) #[true, true, true, false, false, false, false, false, false, false, false, false, false, false, false, false, false, false, false, false, false, false, false, false, false, false, false, false, false, false, false] rfl rfl (one_of HT_.out (by kernel_rfl)) (by decide) (fun K hK => ?_)
      refine goes_ Try.func30 (by kernel_rfl) rfl #[.agg #[.int .i64 t366, .int .i64 t367, .slice Ao15 t368.length co15, .int .i64 t371]] (by rfl) rfl rfl (by (try simp only [List.map_toArray, List.map_cons, List.map_nil]); first | done | rfl | (simp only [List.length_drop, List.length_take]; rfl)) ?_
      with_reducible refine (entries_Check.calls k t366 t367 _ _ t368 t371 t380 _ ?side1 ?side2 A21.out).mono ?_
      (case side1 => repeat (first | exact (Kd.R_reads' HO370.out).2.2 | (with_reducible refine Kd.C_alloc ?_ _) | (with_reducible refine Kd.C_drewN ?_ _) | (with_reducible refine Kd.C_drew ?_)))
      (case side2 => exact (Kd.R_reads' HO370.out).2.1)
      rintro e wyi1 ⟨rfl, hb⟩
      refine ⟨_, rfl, ?_⟩
      have n0_ := Aside0.mk (Kd.R_below (by (with_reducible repeat (first | apply Kd.R_alloc | apply Kd.R_drewN | apply Kd.R_drew)); exact HO370.out) hb)
      have n1_ := Aside0.mk (Kd.R_below (by (with_reducible repeat (first | apply Kd.R_alloc | apply Kd.R_drewN | apply Kd.R_drew)); exact HO379.out) hb)
      have n2_ := Aside0.mk (blk_below (g := gb365) (o := .cells #[.int .i64 a0_0, .int .i64 a0_1, .slice A0_2 l0_2.length c0_2, .int .i64 a0_3] 26 (0, 0)) (by (with_reducible repeat (first | refine blk_drewN ?_ _ | refine blk_drew ?_ | refine blk_alloc ?_ _)); exact BK365.out) hb)
      have n3_ := Aside0.mk (blk_below (g := gb372) (o := .cells #[.int .i64 t366, .int .i64 t367, .slice Ao15 t368.length co15, .int .i64 t371] 26 (0, 0)) (by (with_reducible repeat (first | refine blk_drewN ?_ _ | refine blk_drew ?_ | refine blk_alloc ?_ _)); exact BK372.out) hb)
      have n4_ := Aside0.mk (below_step (by repeat (first | (with_reducible first | exact HB.out | apply below_alloc | apply pw_below_drewN | apply below_drew1 | refine below_set ?_ GE365.out | refine below_set ?_ GE372.out) | exact HB.out)) hb)
      clear HO370
      clear HO379
      clear BK365
      clear BK372
      clear HB
      have HO370 := n0_
      have HO379 := n1_
      have BK365 := n2_
      have BK372 := n3_
      have HB := n4_
      clear n0_ n1_ n2_ n3_ n4_
      (try clear hb)
      (try clear hb2)
      (try clear hk)
      (try clear hi)
      refine hK.out _ _ ⟨(blk_cell BK372.out 0).trans rfl, (blk_cell BK372.out 1).trans rfl, (blk_cell BK372.out 2).trans rfl, (blk_cell BK372.out 3).trans rfl, (blk_cell BK365.out 0).trans rfl, (blk_cell BK365.out 1).trans rfl, (blk_cell BK365.out 2).trans rfl, (blk_cell BK365.out 3).trans rfl⟩ (fun hHeld => ?_)
      clear hK K
      refine norm_ (a' := ?_) ?_ ?_
      rotate_left
      · show Act.put _ (some 32) _ = _
        simp only [Act.put, List.setIfInBounds_toArray, List.set_cons_zero, List.set_cons_succ, i64_w, i32_w]
        rfl
      refine one_ (i := 3) (N := some 34) #[true, true, true, true, false, false, false, false, false, false, false, false, false, false, false, false, false, false, false, false, false, false, false, false, false, false, false, false, false, false, false] rfl rfl (one_of HT_.out (by kernel_rfl)) (by decide) (fun K hK => ?_)
      refine goes_ Try.func31 (by kernel_rfl) rfl #[.agg #[.int .i64 a0_0, .int .i64 a0_1, .slice A0_2 l0_2.length c0_2, .int .i64 a0_3]] (by rfl) rfl rfl (by (try simp only [List.map_toArray, List.map_cons, List.map_nil]); first | done | rfl | (simp only [List.length_drop, List.length_take]; rfl)) ?_
      with_reducible refine (rialtoref08_Check.calls k a0_0 a0_1 _ _ l0_2 a0_3 t381 _ ?side1 ?side2 A22.out).mono ?_
      (case side1 => repeat (first | exact (Kd.C_below HR0_2.out HB.out) | (with_reducible refine Kd.C_alloc ?_ _) | (with_reducible refine Kd.C_drewN ?_ _) | (with_reducible refine Kd.C_drew ?_)))
      (case side2 => exact HC0_2.out)
      rintro e wyi2 ⟨rfl, hb⟩
      refine ⟨_, rfl, ?_⟩
      have n0_ := Aside0.mk (Kd.R_below (by (with_reducible repeat (first | apply Kd.R_alloc | apply Kd.R_drewN | apply Kd.R_drew)); exact HO370.out) hb)
      have n1_ := Aside0.mk (Kd.R_below (by (with_reducible repeat (first | apply Kd.R_alloc | apply Kd.R_drewN | apply Kd.R_drew)); exact HO379.out) hb)
      have n2_ := Aside0.mk (blk_below (g := gb365) (o := .cells #[.int .i64 a0_0, .int .i64 a0_1, .slice A0_2 l0_2.length c0_2, .int .i64 a0_3] 26 (0, 0)) (by (with_reducible repeat (first | refine blk_drewN ?_ _ | refine blk_drew ?_ | refine blk_alloc ?_ _)); exact BK365.out) hb)
      have n3_ := Aside0.mk (blk_below (g := gb372) (o := .cells #[.int .i64 t366, .int .i64 t367, .slice Ao15 t368.length co15, .int .i64 t371] 26 (0, 0)) (by (with_reducible repeat (first | refine blk_drewN ?_ _ | refine blk_drew ?_ | refine blk_alloc ?_ _)); exact BK372.out) hb)
      have n4_ := Aside0.mk (below_step (by repeat (first | (with_reducible first | exact HB.out | apply below_alloc | apply pw_below_drewN | apply below_drew1 | refine below_set ?_ GE365.out | refine below_set ?_ GE372.out) | exact HB.out)) hb)
      clear HO370
      clear HO379
      clear BK365
      clear BK372
      clear HB
      have HO370 := n0_
      have HO379 := n1_
      have BK365 := n2_
      have BK372 := n3_
      have HB := n4_
      clear n0_ n1_ n2_ n3_ n4_
      (try clear hb)
      (try clear hb2)
      (try clear hk)
      (try clear hi)
      refine hK.out _ _ ⟨(blk_cell BK372.out 0).trans rfl, (blk_cell BK372.out 1).trans rfl, (blk_cell BK372.out 2).trans rfl, (blk_cell BK372.out 3).trans rfl, (blk_cell BK365.out 0).trans rfl, (blk_cell BK365.out 1).trans rfl, (blk_cell BK365.out 2).trans rfl, (blk_cell BK365.out 3).trans rfl⟩ (fun hHeld => ?_)
      clear hK K
      refine norm_ (a' := ?_) ?_ ?_
      rotate_left
      · show Act.put _ (some 34) _ = _
        simp only [Act.put, List.setIfInBounds_toArray, List.set_cons_zero, List.set_cons_succ, i64_w, i32_w]
        rfl
      refine stepP HT_ 4 (some 35) ?_
      refine stepP HT_ 5 (some 36) ?_
      refine stepT8 HT_ HW_ 6 (some 37) hHeld ?_
      refine stepT8 HT_ HW_ 8 (some 39) hHeld ?_
      refine one_ (i := 7) (N := some 38) #[true, true, true, true, true, true, true, true, true, false, false, false, false, false, false, false, false, false, false, false, false, false, false, false, false, false, false, false, false, false, false] rfl rfl (one_of HT_.out (by kernel_rfl)) (by decide) (fun K hK => ?_)
      refine goes_ Try.func32 (by kernel_rfl) rfl #[.agg #[.int .i64 t366, .int .i64 t367, .slice Ao15 t368.length co15, .int .i64 t371]] (by rfl) rfl rfl (by (try simp only [List.map_toArray, List.map_cons, List.map_nil]); first | done | rfl | (simp only [List.length_drop, List.length_take]; rfl)) ?_
      with_reducible refine (entries_Last.calls k t366 t367 _ _ t368 t371 t382 t383 _ ?side1 ?side2 A24.out).mono ?_
      (case side1 => repeat (first | exact (Kd.R_reads' HO370.out).2.2 | (with_reducible refine Kd.C_alloc ?_ _) | (with_reducible refine Kd.C_drewN ?_ _) | (with_reducible refine Kd.C_drew ?_)))
      (case side2 => exact (Kd.R_reads' HO370.out).2.1)
      rintro e wyi3 ⟨rfl, hb⟩
      refine ⟨_, rfl, ?_⟩
      have n0_ := Aside0.mk (Kd.R_below (by (with_reducible repeat (first | apply Kd.R_alloc | apply Kd.R_drewN | apply Kd.R_drew)); exact HO370.out) hb)
      have n1_ := Aside0.mk (Kd.R_below (by (with_reducible repeat (first | apply Kd.R_alloc | apply Kd.R_drewN | apply Kd.R_drew)); exact HO379.out) hb)
      have n2_ := Aside0.mk (blk_below (g := gb365) (o := .cells #[.int .i64 a0_0, .int .i64 a0_1, .slice A0_2 l0_2.length c0_2, .int .i64 a0_3] 26 (0, 0)) (by (with_reducible repeat (first | refine blk_drewN ?_ _ | refine blk_drew ?_ | refine blk_alloc ?_ _)); exact BK365.out) hb)
      have n3_ := Aside0.mk (blk_below (g := gb372) (o := .cells #[.int .i64 t366, .int .i64 t367, .slice Ao15 t368.length co15, .int .i64 t371] 26 (0, 0)) (by (with_reducible repeat (first | refine blk_drewN ?_ _ | refine blk_drew ?_ | refine blk_alloc ?_ _)); exact BK372.out) hb)
      have n4_ := Aside0.mk (below_step (by repeat (first | (with_reducible first | exact HB.out | apply below_alloc | apply pw_below_drewN | apply below_drew1 | refine below_set ?_ GE365.out | refine below_set ?_ GE372.out) | exact HB.out)) hb)
      clear HO370
      clear HO379
      clear BK365
      clear BK372
      clear HB
      have HO370 := n0_
      have HO379 := n1_
      have BK365 := n2_
      have BK372 := n3_
      have HB := n4_
      clear n0_ n1_ n2_ n3_ n4_
      (try clear hb)
      (try clear hb2)
      (try clear hk)
      (try clear hi)
      refine hK.out _ _ ⟨(blk_cell BK372.out 0).trans rfl, (blk_cell BK372.out 1).trans rfl, (blk_cell BK372.out 2).trans rfl, (blk_cell BK372.out 3).trans rfl, (blk_cell BK365.out 0).trans rfl, (blk_cell BK365.out 1).trans rfl, (blk_cell BK365.out 2).trans rfl, (blk_cell BK365.out 3).trans rfl⟩ (fun hHeld => ?_)
      clear hK K
      refine norm_ (a' := ?_) ?_ ?_
      rotate_left
      · show Act.put _ (some 38) _ = _
        simp only [Act.put, List.setIfInBounds_toArray, List.set_cons_zero, List.set_cons_succ, i64_w, i32_w]
        rfl
      refine one_ (i := 9) (N := some 40) #[true, true, true, true, true, true, true, true, true, true, false, false, false, false, false, false, false, false, false, false, false, false, false, false, false, false, false, false, false, false, false] rfl rfl (one_of HT_.out (by kernel_rfl)) (by decide) (fun K hK => ?_)
      refine goes_ Try.func33 (by kernel_rfl) rfl #[.agg #[.int .i64 a0_0, .int .i64 a0_1, .slice A0_2 l0_2.length c0_2, .int .i64 a0_3]] (by rfl) rfl rfl (by (try simp only [List.map_toArray, List.map_cons, List.map_nil]); first | done | rfl | (simp only [List.length_drop, List.length_take]; rfl)) ?_
      with_reducible refine (rialtoref08_Last.calls k a0_0 a0_1 _ _ l0_2 a0_3 t384 t385 _ ?side1 ?side2 A25.out).mono ?_
      (case side1 => repeat (first | exact (Kd.C_below HR0_2.out HB.out) | (with_reducible refine Kd.C_alloc ?_ _) | (with_reducible refine Kd.C_drewN ?_ _) | (with_reducible refine Kd.C_drew ?_)))
      (case side2 => exact HC0_2.out)
      rintro e wyi4 ⟨rfl, hb⟩
      refine ⟨_, rfl, ?_⟩
      have n0_ := Aside0.mk (Kd.R_below (by (with_reducible repeat (first | apply Kd.R_alloc | apply Kd.R_drewN | apply Kd.R_drew)); exact HO370.out) hb)
      have n1_ := Aside0.mk (Kd.R_below (by (with_reducible repeat (first | apply Kd.R_alloc | apply Kd.R_drewN | apply Kd.R_drew)); exact HO379.out) hb)
      have n2_ := Aside0.mk (blk_below (g := gb365) (o := .cells #[.int .i64 a0_0, .int .i64 a0_1, .slice A0_2 l0_2.length c0_2, .int .i64 a0_3] 26 (0, 0)) (by (with_reducible repeat (first | refine blk_drewN ?_ _ | refine blk_drew ?_ | refine blk_alloc ?_ _)); exact BK365.out) hb)
      have n3_ := Aside0.mk (blk_below (g := gb372) (o := .cells #[.int .i64 t366, .int .i64 t367, .slice Ao15 t368.length co15, .int .i64 t371] 26 (0, 0)) (by (with_reducible repeat (first | refine blk_drewN ?_ _ | refine blk_drew ?_ | refine blk_alloc ?_ _)); exact BK372.out) hb)
      have n4_ := Aside0.mk (below_step (by repeat (first | (with_reducible first | exact HB.out | apply below_alloc | apply pw_below_drewN | apply below_drew1 | refine below_set ?_ GE365.out | refine below_set ?_ GE372.out) | exact HB.out)) hb)
      clear HO370
      clear HO379
      clear BK365
      clear BK372
      clear HB
      have HO370 := n0_
      have HO379 := n1_
      have BK365 := n2_
      have BK372 := n3_
      have HB := n4_
      clear n0_ n1_ n2_ n3_ n4_
      (try clear hb)
      (try clear hb2)
      (try clear hk)
      (try clear hi)
      refine hK.out _ _ ⟨(blk_cell BK372.out 0).trans rfl, (blk_cell BK372.out 1).trans rfl, (blk_cell BK372.out 2).trans rfl, (blk_cell BK372.out 3).trans rfl, (blk_cell BK365.out 0).trans rfl, (blk_cell BK365.out 1).trans rfl, (blk_cell BK365.out 2).trans rfl, (blk_cell BK365.out 3).trans rfl⟩ (fun hHeld => ?_)
      clear hK K
      refine norm_ (a' := ?_) ?_ ?_
      rotate_left
      · show Act.put _ (some 40) _ = _
        simp only [Act.put, List.setIfInBounds_toArray, List.set_cons_zero, List.set_cons_succ, i64_w, i32_w]
        rfl
      refine stepP HT_ 10 (some 41) ?_
      refine stepP HT_ 11 (some 42) ?_
      refine stepP HT_ 12 (some 43) ?_
      refine stepP HT_ 13 (some 44) ?_
      refine stepP HT_ 14 (some 45) ?_
      refine stepP HT_ 15 (some 46) ?_
      refine stepP HT_ 16 (some 47) ?_
      refine stepP HT_ 17 (some 48) ?_
      refine stepP HT_ 18 (some 49) ?_
      refine stepP HT_ 19 (some 50) ?_
      refine stepP HT_ 20 (some 51) ?_
      refine stepP HT_ 21 (some 52) ?_
      refine stepP HT_ 22 (some 53) ?_
      refine stepU HT_ 23 (some 54) ?_
      refine stepU HT_ 24 (some 55) ?_
      refine stepU HT_ 25 (some 56) ?_
      refine stepU HT_ 26 (some 57) ?_
      refine stepU HT_ 27 (some 58) ?_
      refine stepU HT_ 28 (some 59) ?_
      refine stepU HT_ 29 (some 60) ?_
      refine stepP HT_ 30 (some 61) ?_
      refine done_ (done_of HT_.out (by kernel_rfl)) ?_
      try go_wp2
      go_meet
      case rel => exact ⟨_, (true), (by first | rfl | (simp; done) | (simp [*]; done)), H', ⟨by first | omega | exact Nat.le_refl _⟩, ⟨by (with_reducible repeat (first | apply Kd.R_alloc | apply Kd.R_drewN | apply Kd.R_drew)); exact Kd.R_mono HO379.out (fun _ hk => hk.2)⟩, ⟨by (with_reducible repeat (first | apply Kd.R_alloc | apply Kd.R_drewN | apply Kd.R_drew)); exact Kd.R_mono HO370.out (fun _ hk => hk.2)⟩, ⟨by (with_reducible repeat (first | refine blk_drewN ?_ _ | refine blk_drew ?_ | refine blk_alloc ?_ _)); exact BK365.out⟩, ⟨by (with_reducible repeat (first | refine blk_drewN ?_ _ | refine blk_drew ?_ | refine blk_alloc ?_ _)); exact BK372.out⟩, ⟨by repeat (first | (with_reducible first | exact HB.out | apply below_alloc | apply pw_below_drewN | apply below_drew1 | refine below_set ?_ GE365.out | refine below_set ?_ GE372.out) | exact HB.out)⟩⟩
    focus
      (try (have c33b1 : decide (t374 = t376) = true := by simpa using c33))
      (try (have c33b2 : (t374 == t376) = true := by simpa using c33))
      clear c33
      replace H := Option.bind_eq_some_iff.mp H
      obtain ⟨t386, A390, H⟩ := H
      replace H : ((rialtoref08_SameEntries.f k t377 t386).bind fun t389 => (rialtolaw08_EntriesTell.j0 k t377 (!t389) a0_0 a0_1 l0_2 a0_3 t366 t367 t368 t371)) = some r := H
      have A39 := Aside0.mk A390
      clear A390
      replace H := Option.bind_eq_some_iff.mp H
      obtain ⟨t389, A400, H⟩ := H
      replace H : (rialtolaw08_EntriesTell.j0 k t377 (!t389) a0_0 a0_1 l0_2 a0_3 t366 t367 t368 t371) = some r := H
      have A40 := Aside0.mk A400
      clear A400
      have H' := Aside0.mk H
      clear H
      try go_wp2
      have n0_ := Aside0.mk (Kd.R_drew HO370.out)
      have n1_ := Aside0.mk (Kd.R_drew HO379.out)
      have n2_ := Aside0.mk (blk_drew BK365.out)
      have n3_ := Aside0.mk (blk_drew BK372.out)
      have n4_ := Aside0.mk (below_drew1 HB.out)
      clear HO370
      clear HO379
      clear BK365
      clear BK372
      clear HB
      have HO370 := n0_
      have HO379 := n1_
      have BK365 := n2_
      have BK372 := n3_
      have HB := n4_
      clear n0_ n1_ n2_ n3_ n4_
      refine start_ (n := 31) (S := fun w' => w'.cell? ⟨gb372, 0, none⟩ = some (.int .i64 t366) ∧ w'.cell? ⟨gb372, 1, none⟩ = some (.int .i64 t367) ∧ w'.cell? ⟨gb372, 2, none⟩ = some (.slice Ao15 t368.length co15) ∧ w'.cell? ⟨gb372, 3, none⟩ = some (.int .i64 t371) ∧ w'.cell? ⟨gb365, 0, none⟩ = some (.int .i64 a0_0) ∧ w'.cell? ⟨gb365, 1, none⟩ = some (.int .i64 a0_1) ∧ w'.cell? ⟨gb365, 2, none⟩ = some (.slice A0_2 l0_2.length c0_2) ∧ w'.cell? ⟨gb365, 3, none⟩ = some (.int .i64 a0_3)) (ds := []) #[false, false, false, false, false, false, false, false, false, false, false, false, false, false, false, false, false, false, false, false, false, false, false, false, false, false, false, false, false, false, false] (by kernel_rfl) rfl rfl ⟨(blk_cell BK372.out 0).trans rfl, (blk_cell BK372.out 1).trans rfl, (blk_cell BK372.out 2).trans rfl, (blk_cell BK372.out 3).trans rfl, (blk_cell BK365.out 0).trans rfl, (blk_cell BK365.out 1).trans rfl, (blk_cell BK365.out 2).trans rfl, (blk_cell BK365.out 3).trans rfl⟩ (fun hHeld => ?_); refine with_tabW rialtolaw08_EntriesTell.tab5 rialtolaw08_EntriesTell.bits5 (fun HT_ HW_ => ?_)
      generalize w20.drew = wyi0 at HO370 HO379 BK365 BK372 HB hHeld ⊢
      refine stepT8 HT_ HW_ 0 (some 31) hHeld ?_
      refine stepT8 HT_ HW_ 2 (some 33) hHeld ?_
      refine one_ (i := 1) (N := some 32) #[true, true, true, false, false, false, false, false, false, false, false, false, false, false, false, false, false, false, false, false, false, false, false, false, false, false, false, false, false, false, false] rfl rfl (one_of HT_.out (by kernel_rfl)) (by decide) (fun K hK => ?_)
      refine goes_ Try.func30 (by kernel_rfl) rfl #[.agg #[.int .i64 t366, .int .i64 t367, .slice Ao15 t368.length co15, .int .i64 t371]] (by rfl) rfl rfl (by (try simp only [List.map_toArray, List.map_cons, List.map_nil]); first | done | rfl | (simp only [List.length_drop, List.length_take]; rfl)) ?_
      with_reducible refine (entries_Check.calls k t366 t367 _ _ t368 t371 t380 _ ?side1 ?side2 A21.out).mono ?_
      (case side1 => repeat (first | exact (Kd.R_reads' HO370.out).2.2 | (with_reducible refine Kd.C_alloc ?_ _) | (with_reducible refine Kd.C_drewN ?_ _) | (with_reducible refine Kd.C_drew ?_)))
      (case side2 => exact (Kd.R_reads' HO370.out).2.1)
      rintro e wyi1 ⟨rfl, hb⟩
      refine ⟨_, rfl, ?_⟩
      have n0_ := Aside0.mk (Kd.R_below (by (with_reducible repeat (first | apply Kd.R_alloc | apply Kd.R_drewN | apply Kd.R_drew)); exact HO370.out) hb)
      have n1_ := Aside0.mk (Kd.R_below (by (with_reducible repeat (first | apply Kd.R_alloc | apply Kd.R_drewN | apply Kd.R_drew)); exact HO379.out) hb)
      have n2_ := Aside0.mk (blk_below (g := gb365) (o := .cells #[.int .i64 a0_0, .int .i64 a0_1, .slice A0_2 l0_2.length c0_2, .int .i64 a0_3] 26 (0, 0)) (by (with_reducible repeat (first | refine blk_drewN ?_ _ | refine blk_drew ?_ | refine blk_alloc ?_ _)); exact BK365.out) hb)
      have n3_ := Aside0.mk (blk_below (g := gb372) (o := .cells #[.int .i64 t366, .int .i64 t367, .slice Ao15 t368.length co15, .int .i64 t371] 26 (0, 0)) (by (with_reducible repeat (first | refine blk_drewN ?_ _ | refine blk_drew ?_ | refine blk_alloc ?_ _)); exact BK372.out) hb)
      have n4_ := Aside0.mk (below_step (by repeat (first | (with_reducible first | exact HB.out | apply below_alloc | apply pw_below_drewN | apply below_drew1 | refine below_set ?_ GE365.out | refine below_set ?_ GE372.out) | exact HB.out)) hb)
      clear HO370
      clear HO379
      clear BK365
      clear BK372
      clear HB
      have HO370 := n0_
      have HO379 := n1_
      have BK365 := n2_
      have BK372 := n3_
      have HB := n4_
      clear n0_ n1_ n2_ n3_ n4_
      (try clear hb)
      (try clear hb2)
      (try clear hk)
      (try clear hi)
      refine hK.out _ _ ⟨(blk_cell BK372.out 0).trans rfl, (blk_cell BK372.out 1).trans rfl, (blk_cell BK372.out 2).trans rfl, (blk_cell BK372.out 3).trans rfl, (blk_cell BK365.out 0).trans rfl, (blk_cell BK365.out 1).trans rfl, (blk_cell BK365.out 2).trans rfl, (blk_cell BK365.out 3).trans rfl⟩ (fun hHeld => ?_)
      clear hK K
      refine norm_ (a' := ?_) ?_ ?_
      rotate_left
      · show Act.put _ (some 32) _ = _
        simp only [Act.put, List.setIfInBounds_toArray, List.set_cons_zero, List.set_cons_succ, i64_w, i32_w]
        rfl
      refine one_ (i := 3) (N := some 34) #[true, true, true, true, false, false, false, false, false, false, false, false, false, false, false, false, false, false, false, false, false, false, false, false, false, false, false, false, false, false, false] rfl rfl (one_of HT_.out (by kernel_rfl)) (by decide) (fun K hK => ?_)
      refine goes_ Try.func31 (by kernel_rfl) rfl #[.agg #[.int .i64 a0_0, .int .i64 a0_1, .slice A0_2 l0_2.length c0_2, .int .i64 a0_3]] (by rfl) rfl rfl (by (try simp only [List.map_toArray, List.map_cons, List.map_nil]); first | done | rfl | (simp only [List.length_drop, List.length_take]; rfl)) ?_
      with_reducible refine (rialtoref08_Check.calls k a0_0 a0_1 _ _ l0_2 a0_3 t381 _ ?side1 ?side2 A22.out).mono ?_
      (case side1 => repeat (first | exact (Kd.C_below HR0_2.out HB.out) | (with_reducible refine Kd.C_alloc ?_ _) | (with_reducible refine Kd.C_drewN ?_ _) | (with_reducible refine Kd.C_drew ?_)))
      (case side2 => exact HC0_2.out)
      rintro e wyi2 ⟨rfl, hb⟩
      refine ⟨_, rfl, ?_⟩
      have n0_ := Aside0.mk (Kd.R_below (by (with_reducible repeat (first | apply Kd.R_alloc | apply Kd.R_drewN | apply Kd.R_drew)); exact HO370.out) hb)
      have n1_ := Aside0.mk (Kd.R_below (by (with_reducible repeat (first | apply Kd.R_alloc | apply Kd.R_drewN | apply Kd.R_drew)); exact HO379.out) hb)
      have n2_ := Aside0.mk (blk_below (g := gb365) (o := .cells #[.int .i64 a0_0, .int .i64 a0_1, .slice A0_2 l0_2.length c0_2, .int .i64 a0_3] 26 (0, 0)) (by (with_reducible repeat (first | refine blk_drewN ?_ _ | refine blk_drew ?_ | refine blk_alloc ?_ _)); exact BK365.out) hb)
      have n3_ := Aside0.mk (blk_below (g := gb372) (o := .cells #[.int .i64 t366, .int .i64 t367, .slice Ao15 t368.length co15, .int .i64 t371] 26 (0, 0)) (by (with_reducible repeat (first | refine blk_drewN ?_ _ | refine blk_drew ?_ | refine blk_alloc ?_ _)); exact BK372.out) hb)
      have n4_ := Aside0.mk (below_step (by repeat (first | (with_reducible first | exact HB.out | apply below_alloc | apply pw_below_drewN | apply below_drew1 | refine below_set ?_ GE365.out | refine below_set ?_ GE372.out) | exact HB.out)) hb)
      clear HO370
      clear HO379
      clear BK365
      clear BK372
      clear HB
      have HO370 := n0_
      have HO379 := n1_
      have BK365 := n2_
      have BK372 := n3_
      have HB := n4_
      clear n0_ n1_ n2_ n3_ n4_
      (try clear hb)
      (try clear hb2)
      (try clear hk)
      (try clear hi)
      refine hK.out _ _ ⟨(blk_cell BK372.out 0).trans rfl, (blk_cell BK372.out 1).trans rfl, (blk_cell BK372.out 2).trans rfl, (blk_cell BK372.out 3).trans rfl, (blk_cell BK365.out 0).trans rfl, (blk_cell BK365.out 1).trans rfl, (blk_cell BK365.out 2).trans rfl, (blk_cell BK365.out 3).trans rfl⟩ (fun hHeld => ?_)
      clear hK K
      refine norm_ (a' := ?_) ?_ ?_
      rotate_left
      · show Act.put _ (some 34) _ = _
        simp only [Act.put, List.setIfInBounds_toArray, List.set_cons_zero, List.set_cons_succ, i64_w, i32_w]
        rfl
      refine stepP HT_ 4 (some 35) ?_
      refine stepP HT_ 5 (some 36) ?_
      refine stepT8 HT_ HW_ 6 (some 37) hHeld ?_
      refine stepT8 HT_ HW_ 8 (some 39) hHeld ?_
      refine one_ (i := 7) (N := some 38) #[true, true, true, true, true, true, true, true, true, false, false, false, false, false, false, false, false, false, false, false, false, false, false, false, false, false, false, false, false, false, false] rfl rfl (one_of HT_.out (by kernel_rfl)) (by decide) (fun K hK => ?_)
      refine goes_ Try.func32 (by kernel_rfl) rfl #[.agg #[.int .i64 t366, .int .i64 t367, .slice Ao15 t368.length co15, .int .i64 t371]] (by rfl) rfl rfl (by (try simp only [List.map_toArray, List.map_cons, List.map_nil]); first | done | rfl | (simp only [List.length_drop, List.length_take]; rfl)) ?_
      with_reducible refine (entries_Last.calls k t366 t367 _ _ t368 t371 t382 t383 _ ?side1 ?side2 A24.out).mono ?_
      (case side1 => repeat (first | exact (Kd.R_reads' HO370.out).2.2 | (with_reducible refine Kd.C_alloc ?_ _) | (with_reducible refine Kd.C_drewN ?_ _) | (with_reducible refine Kd.C_drew ?_)))
      (case side2 => exact (Kd.R_reads' HO370.out).2.1)
      rintro e wyi3 ⟨rfl, hb⟩
      refine ⟨_, rfl, ?_⟩
      have n0_ := Aside0.mk (Kd.R_below (by (with_reducible repeat (first | apply Kd.R_alloc | apply Kd.R_drewN | apply Kd.R_drew)); exact HO370.out) hb)
      have n1_ := Aside0.mk (Kd.R_below (by (with_reducible repeat (first | apply Kd.R_alloc | apply Kd.R_drewN | apply Kd.R_drew)); exact HO379.out) hb)
      have n2_ := Aside0.mk (blk_below (g := gb365) (o := .cells #[.int .i64 a0_0, .int .i64 a0_1, .slice A0_2 l0_2.length c0_2, .int .i64 a0_3] 26 (0, 0)) (by (with_reducible repeat (first | refine blk_drewN ?_ _ | refine blk_drew ?_ | refine blk_alloc ?_ _)); exact BK365.out) hb)
      have n3_ := Aside0.mk (blk_below (g := gb372) (o := .cells #[.int .i64 t366, .int .i64 t367, .slice Ao15 t368.length co15, .int .i64 t371] 26 (0, 0)) (by (with_reducible repeat (first | refine blk_drewN ?_ _ | refine blk_drew ?_ | refine blk_alloc ?_ _)); exact BK372.out) hb)
      have n4_ := Aside0.mk (below_step (by repeat (first | (with_reducible first | exact HB.out | apply below_alloc | apply pw_below_drewN | apply below_drew1 | refine below_set ?_ GE365.out | refine below_set ?_ GE372.out) | exact HB.out)) hb)
      clear HO370
      clear HO379
      clear BK365
      clear BK372
      clear HB
      have HO370 := n0_
      have HO379 := n1_
      have BK365 := n2_
      have BK372 := n3_
      have HB := n4_
      clear n0_ n1_ n2_ n3_ n4_
      (try clear hb)
      (try clear hb2)
      (try clear hk)
      (try clear hi)
      refine hK.out _ _ ⟨(blk_cell BK372.out 0).trans rfl, (blk_cell BK372.out 1).trans rfl, (blk_cell BK372.out 2).trans rfl, (blk_cell BK372.out 3).trans rfl, (blk_cell BK365.out 0).trans rfl, (blk_cell BK365.out 1).trans rfl, (blk_cell BK365.out 2).trans rfl, (blk_cell BK365.out 3).trans rfl⟩ (fun hHeld => ?_)
      clear hK K
      refine norm_ (a' := ?_) ?_ ?_
      rotate_left
      · show Act.put _ (some 38) _ = _
        simp only [Act.put, List.setIfInBounds_toArray, List.set_cons_zero, List.set_cons_succ, i64_w, i32_w]
        rfl
      refine one_ (i := 9) (N := some 40) #[true, true, true, true, true, true, true, true, true, true, false, false, false, false, false, false, false, false, false, false, false, false, false, false, false, false, false, false, false, false, false] rfl rfl (one_of HT_.out (by kernel_rfl)) (by decide) (fun K hK => ?_)
      refine goes_ Try.func33 (by kernel_rfl) rfl #[.agg #[.int .i64 a0_0, .int .i64 a0_1, .slice A0_2 l0_2.length c0_2, .int .i64 a0_3]] (by rfl) rfl rfl (by (try simp only [List.map_toArray, List.map_cons, List.map_nil]); first | done | rfl | (simp only [List.length_drop, List.length_take]; rfl)) ?_
      with_reducible refine (rialtoref08_Last.calls k a0_0 a0_1 _ _ l0_2 a0_3 t384 t385 _ ?side1 ?side2 A25.out).mono ?_
      (case side1 => repeat (first | exact (Kd.C_below HR0_2.out HB.out) | (with_reducible refine Kd.C_alloc ?_ _) | (with_reducible refine Kd.C_drewN ?_ _) | (with_reducible refine Kd.C_drew ?_)))
      (case side2 => exact HC0_2.out)
      rintro e wyi4 ⟨rfl, hb⟩
      refine ⟨_, rfl, ?_⟩
      have n0_ := Aside0.mk (Kd.R_below (by (with_reducible repeat (first | apply Kd.R_alloc | apply Kd.R_drewN | apply Kd.R_drew)); exact HO370.out) hb)
      have n1_ := Aside0.mk (Kd.R_below (by (with_reducible repeat (first | apply Kd.R_alloc | apply Kd.R_drewN | apply Kd.R_drew)); exact HO379.out) hb)
      have n2_ := Aside0.mk (blk_below (g := gb365) (o := .cells #[.int .i64 a0_0, .int .i64 a0_1, .slice A0_2 l0_2.length c0_2, .int .i64 a0_3] 26 (0, 0)) (by (with_reducible repeat (first | refine blk_drewN ?_ _ | refine blk_drew ?_ | refine blk_alloc ?_ _)); exact BK365.out) hb)
      have n3_ := Aside0.mk (blk_below (g := gb372) (o := .cells #[.int .i64 t366, .int .i64 t367, .slice Ao15 t368.length co15, .int .i64 t371] 26 (0, 0)) (by (with_reducible repeat (first | refine blk_drewN ?_ _ | refine blk_drew ?_ | refine blk_alloc ?_ _)); exact BK372.out) hb)
      have n4_ := Aside0.mk (below_step (by repeat (first | (with_reducible first | exact HB.out | apply below_alloc | apply pw_below_drewN | apply below_drew1 | refine below_set ?_ GE365.out | refine below_set ?_ GE372.out) | exact HB.out)) hb)
      clear HO370
      clear HO379
      clear BK365
      clear BK372
      clear HB
      have HO370 := n0_
      have HO379 := n1_
      have BK365 := n2_
      have BK372 := n3_
      have HB := n4_
      clear n0_ n1_ n2_ n3_ n4_
      (try clear hb)
      (try clear hb2)
      (try clear hk)
      (try clear hi)
      refine hK.out _ _ ⟨(blk_cell BK372.out 0).trans rfl, (blk_cell BK372.out 1).trans rfl, (blk_cell BK372.out 2).trans rfl, (blk_cell BK372.out 3).trans rfl, (blk_cell BK365.out 0).trans rfl, (blk_cell BK365.out 1).trans rfl, (blk_cell BK365.out 2).trans rfl, (blk_cell BK365.out 3).trans rfl⟩ (fun hHeld => ?_)
      clear hK K
      refine norm_ (a' := ?_) ?_ ?_
      rotate_left
      · show Act.put _ (some 40) _ = _
        simp only [Act.put, List.setIfInBounds_toArray, List.set_cons_zero, List.set_cons_succ, i64_w, i32_w]
        rfl
      refine stepP HT_ 10 (some 41) ?_
      refine stepP HT_ 11 (some 42) ?_
      refine stepP HT_ 12 (some 43) ?_
      refine stepP HT_ 13 (some 44) ?_
      refine stepP HT_ 14 (some 45) ?_
      refine stepP HT_ 15 (some 46) ?_
      refine stepP HT_ 16 (some 47) ?_
      refine stepP HT_ 17 (some 48) ?_
      refine stepP HT_ 18 (some 49) ?_
      refine stepP HT_ 19 (some 50) ?_
      refine stepP HT_ 20 (some 51) ?_
      refine stepP HT_ 21 (some 52) ?_
      refine stepP HT_ 22 (some 53) ?_
      refine stepP HT_ 23 (some 54) ?_
      refine stepP HT_ 25 (some 56) ?_
      refine stepP HT_ 26 (some 57) ?_
      refine stepT8 HT_ HW_ 24 (some 55) hHeld ?_
      refine one_ (i := 27) (N := some 58) #[true, true, true, true, true, true, true, true, true, true, true, true, true, true, true, true, true, true, true, true, true, true, true, true, true, true, true, true, false, false, false] rfl rfl (one_of HT_.out (by kernel_rfl)) (by decide) (fun K hK => ?_)
      refine goes_ Try.func34 (by kernel_rfl) rfl #[.agg #[.int .i64 a0_0, .int .i64 a0_1, .slice A0_2 l0_2.length c0_2, .int .i64 a0_3], .int .i64 a1, .int .i64 a2] (by rfl) rfl rfl (by (try simp only [List.map_toArray, List.map_cons, List.map_nil]); first | done | rfl | (simp only [List.length_drop, List.length_take]; rfl)) ?_
      with_reducible refine (rialtoref08_From.calls k a0_0 a0_1 _ _ l0_2 a0_3 a1 a2 t386 _ ?side1 ?side2 A39.out).mono ?_
      (case side1 => repeat (first | exact (Kd.C_below HR0_2.out HB.out) | (with_reducible refine Kd.C_alloc ?_ _) | (with_reducible refine Kd.C_drewN ?_ _) | (with_reducible refine Kd.C_drew ?_)))
      (case side2 => exact HC0_2.out)
      rintro e wyi5 ⟨v387, rfl, ho0, hb⟩
      refine ⟨_, rfl, ?_⟩
      have n0_ := Aside0.mk (Kd.R_elder' (by (with_reducible repeat (first | apply Kd.R_alloc | apply Kd.R_drewN | apply Kd.R_drew)); exact HO370.out) (Kd.R_base ho0) hb)
      have n1_ := Aside0.mk (Kd.R_elder' (by (with_reducible repeat (first | apply Kd.R_alloc | apply Kd.R_drewN | apply Kd.R_drew)); exact HO379.out) (Kd.R_base ho0) hb)
      have n2_ := Aside0.mk (Kd.R_lower (Kd.R_new' (Kd.R_new' ho0 (Kd.R_lt (by (with_reducible repeat (first | apply Kd.R_alloc | apply Kd.R_drewN | apply Kd.R_drew)); exact HO370.out))) (Kd.R_lt (by (with_reducible repeat (first | apply Kd.R_alloc | apply Kd.R_drewN | apply Kd.R_drew)); exact HO379.out))) (below_size (by repeat (first | (with_reducible first | exact HB.out | apply below_alloc | apply pw_below_drewN | apply below_drew1 | refine below_set ?_ GE365.out | refine below_set ?_ GE372.out) | exact HB.out))))
      have n3_ := Aside0.mk (blk_below (g := gb365) (o := .cells #[.int .i64 a0_0, .int .i64 a0_1, .slice A0_2 l0_2.length c0_2, .int .i64 a0_3] 26 (0, 0)) (by (with_reducible repeat (first | refine blk_drewN ?_ _ | refine blk_drew ?_ | refine blk_alloc ?_ _)); exact BK365.out) hb)
      have n4_ := Aside0.mk (blk_below (g := gb372) (o := .cells #[.int .i64 t366, .int .i64 t367, .slice Ao15 t368.length co15, .int .i64 t371] 26 (0, 0)) (by (with_reducible repeat (first | refine blk_drewN ?_ _ | refine blk_drew ?_ | refine blk_alloc ?_ _)); exact BK372.out) hb)
      have n5_ := Aside0.mk (below_step (by repeat (first | (with_reducible first | exact HB.out | apply below_alloc | apply pw_below_drewN | apply below_drew1 | refine below_set ?_ GE365.out | refine below_set ?_ GE372.out) | exact HB.out)) hb)
      clear HO370
      clear HO379
      clear BK365
      clear BK372
      clear HB
      have HO370 := n0_
      have HO379 := n1_
      have HO388 := n2_
      have BK365 := n3_
      have BK372 := n4_
      have HB := n5_
      clear n0_ n1_ n2_ n3_ n4_ n5_
      (try clear hb)
      (try clear hb2)
      (try clear hk)
      (try clear hi)
      (try clear ho0)
      obtain ⟨Aoyi0, coyi0, eoyi0⟩ := Kd.R_slice HO379.out
      (first | subst eoyi0 | (injection eoyi0 with f1_ f2_ f3_; have f4_ := f1_.symm; have f5_ := f3_.symm; clear f1_ f2_ f3_; subst f4_; subst f5_))
      obtain ⟨Aoyi1, coyi1, eoyi1⟩ := Kd.R_slice HO388.out
      (first | subst eoyi1 | (injection eoyi1 with f1_ f2_ f3_; have f4_ := f1_.symm; have f5_ := f3_.symm; clear f1_ f2_ f3_; subst f4_; subst f5_))
      refine hK.out _ _ ⟨(blk_cell BK372.out 0).trans rfl, (blk_cell BK372.out 1).trans rfl, (blk_cell BK372.out 2).trans rfl, (blk_cell BK372.out 3).trans rfl, (blk_cell BK365.out 0).trans rfl, (blk_cell BK365.out 1).trans rfl, (blk_cell BK365.out 2).trans rfl, (blk_cell BK365.out 3).trans rfl⟩ (fun hHeld => ?_)
      clear hK K
      refine norm_ (a' := ?_) ?_ ?_
      rotate_left
      · show Act.put _ (some 58) _ = _
        simp only [Act.put, List.setIfInBounds_toArray, List.set_cons_zero, List.set_cons_succ, i64_w, i32_w]
        rfl
      refine one_ (i := 28) (N := some 59) #[true, true, true, true, true, true, true, true, true, true, true, true, true, true, true, true, true, true, true, true, true, true, true, true, true, true, true, true, true, false, false] rfl rfl (one_of HT_.out (by kernel_rfl)) (by decide) (fun K hK => ?_)
      refine goes_ Try.func22 (by kernel_rfl) rfl #[.slice Aoyi0 t377.length coyi0, .slice Aoyi1 t386.length coyi1] (by rfl) rfl rfl (by (try simp only [List.map_toArray, List.map_cons, List.map_nil]); first | done | rfl | (simp only [List.length_drop, List.length_take]; rfl)) ?_
      with_reducible refine (rialtoref08_SameEntries.calls k _ _ t377 _ _ t386 t389 _ ?side1 ?side2 ?side3 ?side4 A40.out).mono ?_
      (case side1 => repeat (first | exact (Kd.R_reads' HO379.out).2.2 | (with_reducible refine Kd.C_alloc ?_ _) | (with_reducible refine Kd.C_drewN ?_ _) | (with_reducible refine Kd.C_drew ?_)))
      (case side2 => exact (Kd.R_reads' HO379.out).2.1)
      (case side3 => repeat (first | exact (Kd.R_reads' HO388.out).2.2 | (with_reducible refine Kd.C_alloc ?_ _) | (with_reducible refine Kd.C_drewN ?_ _) | (with_reducible refine Kd.C_drew ?_)))
      (case side4 => exact (Kd.R_reads' HO388.out).2.1)
      rintro e w' ⟨rfl, ⟨nd, rfl⟩⟩
      refine ⟨_, rfl, ?_⟩
      refine hK.out _ _ ⟨(blk_cell BK372.out 0).trans rfl, (blk_cell BK372.out 1).trans rfl, (blk_cell BK372.out 2).trans rfl, (blk_cell BK372.out 3).trans rfl, (blk_cell BK365.out 0).trans rfl, (blk_cell BK365.out 1).trans rfl, (blk_cell BK365.out 2).trans rfl, (blk_cell BK365.out 3).trans rfl⟩ (fun hHeld => ?_)
      clear hK K
      refine norm_ (a' := ?_) ?_ ?_
      rotate_left
      · show Act.put _ (some 59) _ = _
        simp only [Act.put, List.setIfInBounds_toArray, List.set_cons_zero, List.set_cons_succ, i64_w, i32_w]
        rfl
      refine stepP HT_ 29 (some 60) ?_
      refine stepP HT_ 30 (some 61) ?_
      refine done_ (done_of HT_.out (by kernel_rfl)) ?_
      try go_wp2
      go_meet
      case rel => exact ⟨_, (!t389), (by first | rfl | (simp; done) | (simp [*]; done)), H', ⟨by first | omega | exact Nat.le_refl _⟩, ⟨by (with_reducible repeat (first | apply Kd.R_alloc | apply Kd.R_drewN | apply Kd.R_drew)); exact Kd.R_mono HO379.out (fun _ hk => hk.1.2)⟩, ⟨by (with_reducible repeat (first | apply Kd.R_alloc | apply Kd.R_drewN | apply Kd.R_drew)); exact Kd.R_mono HO370.out (fun _ hk => hk.1.2)⟩, ⟨by (with_reducible repeat (first | refine blk_drewN ?_ _ | refine blk_drew ?_ | refine blk_alloc ?_ _)); exact BK365.out⟩, ⟨by (with_reducible repeat (first | refine blk_drewN ?_ _ | refine blk_drew ?_ | refine blk_alloc ?_ _)); exact BK372.out⟩, ⟨by repeat (first | (with_reducible first | exact HB.out | apply below_alloc | apply pw_below_drewN | apply below_drew1 | refine below_set ?_ GE365.out | refine below_set ?_ GE372.out) | exact HB.out)⟩⟩
    iterate 2
      focus
        try go_wp2
        have n0_ := Aside0.mk (Kd.R_drew HO370.out)
        have n1_ := Aside0.mk (Kd.R_drew HO379.out)
        have n2_ := Aside0.mk (blk_drew BK365.out)
        have n3_ := Aside0.mk (blk_drew BK372.out)
        have n4_ := Aside0.mk (below_drew1 HB.out)
        clear HO370
        clear HO379
        clear BK365
        clear BK372
        clear HB
        have HO370 := n0_
        have HO379 := n1_
        have BK365 := n2_
        have BK372 := n3_
        have HB := n4_
        clear n0_ n1_ n2_ n3_ n4_
        refine start_ (n := 31) (S := fun w' => w'.cell? ⟨gb372, 0, none⟩ = some (.int .i64 t366) ∧ w'.cell? ⟨gb372, 1, none⟩ = some (.int .i64 t367) ∧ w'.cell? ⟨gb372, 2, none⟩ = some (.slice Ao15 t368.length co15) ∧ w'.cell? ⟨gb372, 3, none⟩ = some (.int .i64 t371) ∧ w'.cell? ⟨gb365, 0, none⟩ = some (.int .i64 a0_0) ∧ w'.cell? ⟨gb365, 1, none⟩ = some (.int .i64 a0_1) ∧ w'.cell? ⟨gb365, 2, none⟩ = some (.slice A0_2 l0_2.length c0_2) ∧ w'.cell? ⟨gb365, 3, none⟩ = some (.int .i64 a0_3)) (ds := []) #[false, false, false, false, false, false, false, false, false, false, false, false, false, false, false, false, false, false, false, false, false, false, false, false, false, false, false, false, false, false, false] (by kernel_rfl) rfl rfl ⟨(blk_cell BK372.out 0).trans rfl, (blk_cell BK372.out 1).trans rfl, (blk_cell BK372.out 2).trans rfl, (blk_cell BK372.out 3).trans rfl, (blk_cell BK365.out 0).trans rfl, (blk_cell BK365.out 1).trans rfl, (blk_cell BK365.out 2).trans rfl, (blk_cell BK365.out 3).trans rfl⟩ (fun hHeld => ?_); refine with_tabW rialtolaw08_EntriesTell.tab5 rialtolaw08_EntriesTell.bits5 (fun HT_ HW_ => ?_)
        generalize w20.drew = wyi0 at HO370 HO379 BK365 BK372 HB hHeld ⊢
        refine stepT8 HT_ HW_ 0 (some 31) hHeld ?_
        refine stepT8 HT_ HW_ 2 (some 33) hHeld ?_
        refine one_ (i := 1) (N := some 32) #[true, true, true, false, false, false, false, false, false, false, false, false, false, false, false, false, false, false, false, false, false, false, false, false, false, false, false, false, false, false, false] rfl rfl (one_of HT_.out (by kernel_rfl)) (by decide) (fun K hK => ?_)
        refine goes_ Try.func30 (by kernel_rfl) rfl #[.agg #[.int .i64 t366, .int .i64 t367, .slice Ao15 t368.length co15, .int .i64 t371]] (by rfl) rfl rfl (by (try simp only [List.map_toArray, List.map_cons, List.map_nil]); first | done | rfl | (simp only [List.length_drop, List.length_take]; rfl)) ?_
        with_reducible refine (entries_Check.calls k t366 t367 _ _ t368 t371 t380 _ ?side1 ?side2 A21.out).mono ?_
        (case side1 => repeat (first | exact (Kd.R_reads' HO370.out).2.2 | (with_reducible refine Kd.C_alloc ?_ _) | (with_reducible refine Kd.C_drewN ?_ _) | (with_reducible refine Kd.C_drew ?_)))
        (case side2 => exact (Kd.R_reads' HO370.out).2.1)
        rintro e wyi1 ⟨rfl, hb⟩
        refine ⟨_, rfl, ?_⟩
        have n0_ := Aside0.mk (Kd.R_below (by (with_reducible repeat (first | apply Kd.R_alloc | apply Kd.R_drewN | apply Kd.R_drew)); exact HO370.out) hb)
        have n1_ := Aside0.mk (Kd.R_below (by (with_reducible repeat (first | apply Kd.R_alloc | apply Kd.R_drewN | apply Kd.R_drew)); exact HO379.out) hb)
        have n2_ := Aside0.mk (blk_below (g := gb365) (o := .cells #[.int .i64 a0_0, .int .i64 a0_1, .slice A0_2 l0_2.length c0_2, .int .i64 a0_3] 26 (0, 0)) (by (with_reducible repeat (first | refine blk_drewN ?_ _ | refine blk_drew ?_ | refine blk_alloc ?_ _)); exact BK365.out) hb)
        have n3_ := Aside0.mk (blk_below (g := gb372) (o := .cells #[.int .i64 t366, .int .i64 t367, .slice Ao15 t368.length co15, .int .i64 t371] 26 (0, 0)) (by (with_reducible repeat (first | refine blk_drewN ?_ _ | refine blk_drew ?_ | refine blk_alloc ?_ _)); exact BK372.out) hb)
        have n4_ := Aside0.mk (below_step (by repeat (first | (with_reducible first | exact HB.out | apply below_alloc | apply pw_below_drewN | apply below_drew1 | refine below_set ?_ GE365.out | refine below_set ?_ GE372.out) | exact HB.out)) hb)
        clear HO370
        clear HO379
        clear BK365
        clear BK372
        clear HB
        have HO370 := n0_
        have HO379 := n1_
        have BK365 := n2_
        have BK372 := n3_
        have HB := n4_
        clear n0_ n1_ n2_ n3_ n4_
        (try clear hb)
        (try clear hb2)
        (try clear hk)
        (try clear hi)
        refine hK.out _ _ ⟨(blk_cell BK372.out 0).trans rfl, (blk_cell BK372.out 1).trans rfl, (blk_cell BK372.out 2).trans rfl, (blk_cell BK372.out 3).trans rfl, (blk_cell BK365.out 0).trans rfl, (blk_cell BK365.out 1).trans rfl, (blk_cell BK365.out 2).trans rfl, (blk_cell BK365.out 3).trans rfl⟩ (fun hHeld => ?_)
        clear hK K
        refine norm_ (a' := ?_) ?_ ?_
        rotate_left
        · show Act.put _ (some 32) _ = _
          simp only [Act.put, List.setIfInBounds_toArray, List.set_cons_zero, List.set_cons_succ, i64_w, i32_w]
          rfl
        refine one_ (i := 3) (N := some 34) #[true, true, true, true, false, false, false, false, false, false, false, false, false, false, false, false, false, false, false, false, false, false, false, false, false, false, false, false, false, false, false] rfl rfl (one_of HT_.out (by kernel_rfl)) (by decide) (fun K hK => ?_)
        refine goes_ Try.func31 (by kernel_rfl) rfl #[.agg #[.int .i64 a0_0, .int .i64 a0_1, .slice A0_2 l0_2.length c0_2, .int .i64 a0_3]] (by rfl) rfl rfl (by (try simp only [List.map_toArray, List.map_cons, List.map_nil]); first | done | rfl | (simp only [List.length_drop, List.length_take]; rfl)) ?_
        with_reducible refine (rialtoref08_Check.calls k a0_0 a0_1 _ _ l0_2 a0_3 t381 _ ?side1 ?side2 A22.out).mono ?_
        (case side1 => repeat (first | exact (Kd.C_below HR0_2.out HB.out) | (with_reducible refine Kd.C_alloc ?_ _) | (with_reducible refine Kd.C_drewN ?_ _) | (with_reducible refine Kd.C_drew ?_)))
        (case side2 => exact HC0_2.out)
        rintro e wyi2 ⟨rfl, hb⟩
        refine ⟨_, rfl, ?_⟩
        have n0_ := Aside0.mk (Kd.R_below (by (with_reducible repeat (first | apply Kd.R_alloc | apply Kd.R_drewN | apply Kd.R_drew)); exact HO370.out) hb)
        have n1_ := Aside0.mk (Kd.R_below (by (with_reducible repeat (first | apply Kd.R_alloc | apply Kd.R_drewN | apply Kd.R_drew)); exact HO379.out) hb)
        have n2_ := Aside0.mk (blk_below (g := gb365) (o := .cells #[.int .i64 a0_0, .int .i64 a0_1, .slice A0_2 l0_2.length c0_2, .int .i64 a0_3] 26 (0, 0)) (by (with_reducible repeat (first | refine blk_drewN ?_ _ | refine blk_drew ?_ | refine blk_alloc ?_ _)); exact BK365.out) hb)
        have n3_ := Aside0.mk (blk_below (g := gb372) (o := .cells #[.int .i64 t366, .int .i64 t367, .slice Ao15 t368.length co15, .int .i64 t371] 26 (0, 0)) (by (with_reducible repeat (first | refine blk_drewN ?_ _ | refine blk_drew ?_ | refine blk_alloc ?_ _)); exact BK372.out) hb)
        have n4_ := Aside0.mk (below_step (by repeat (first | (with_reducible first | exact HB.out | apply below_alloc | apply pw_below_drewN | apply below_drew1 | refine below_set ?_ GE365.out | refine below_set ?_ GE372.out) | exact HB.out)) hb)
        clear HO370
        clear HO379
        clear BK365
        clear BK372
        clear HB
        have HO370 := n0_
        have HO379 := n1_
        have BK365 := n2_
        have BK372 := n3_
        have HB := n4_
        clear n0_ n1_ n2_ n3_ n4_
        (try clear hb)
        (try clear hb2)
        (try clear hk)
        (try clear hi)
        refine hK.out _ _ ⟨(blk_cell BK372.out 0).trans rfl, (blk_cell BK372.out 1).trans rfl, (blk_cell BK372.out 2).trans rfl, (blk_cell BK372.out 3).trans rfl, (blk_cell BK365.out 0).trans rfl, (blk_cell BK365.out 1).trans rfl, (blk_cell BK365.out 2).trans rfl, (blk_cell BK365.out 3).trans rfl⟩ (fun hHeld => ?_)
        clear hK K
        refine norm_ (a' := ?_) ?_ ?_
        rotate_left
        · show Act.put _ (some 34) _ = _
          simp only [Act.put, List.setIfInBounds_toArray, List.set_cons_zero, List.set_cons_succ, i64_w, i32_w]
          rfl
        refine stepP HT_ 4 (some 35) ?_
        refine stepP HT_ 5 (some 36) ?_
      rotate_left
    focus
      refine stepT8 HT_ HW_ 6 (some 37) hHeld ?_
      refine stepT8 HT_ HW_ 8 (some 39) hHeld ?_
      refine one_ (i := 7) (N := some 38) #[true, true, true, true, true, true, true, true, true, false, false, false, false, false, false, false, false, false, false, false, false, false, false, false, false, false, false, false, false, false, false] rfl rfl (one_of HT_.out (by kernel_rfl)) (by decide) (fun K hK => ?_)
      refine goes_ Try.func32 (by kernel_rfl) rfl #[.agg #[.int .i64 t366, .int .i64 t367, .slice Ao15 t368.length co15, .int .i64 t371]] (by rfl) rfl rfl (by (try simp only [List.map_toArray, List.map_cons, List.map_nil]); first | done | rfl | (simp only [List.length_drop, List.length_take]; rfl)) ?_
      with_reducible refine (entries_Last.calls k t366 t367 _ _ t368 t371 t382 t383 _ ?side1 ?side2 A24.out).mono ?_
      (case side1 => repeat (first | exact (Kd.R_reads' HO370.out).2.2 | (with_reducible refine Kd.C_alloc ?_ _) | (with_reducible refine Kd.C_drewN ?_ _) | (with_reducible refine Kd.C_drew ?_)))
      (case side2 => exact (Kd.R_reads' HO370.out).2.1)
      rintro e wyi3 ⟨rfl, hb⟩
      refine ⟨_, rfl, ?_⟩
      have n0_ := Aside0.mk (Kd.R_below (by (with_reducible repeat (first | apply Kd.R_alloc | apply Kd.R_drewN | apply Kd.R_drew)); exact HO370.out) hb)
      have n1_ := Aside0.mk (Kd.R_below (by (with_reducible repeat (first | apply Kd.R_alloc | apply Kd.R_drewN | apply Kd.R_drew)); exact HO379.out) hb)
      have n2_ := Aside0.mk (blk_below (g := gb365) (o := .cells #[.int .i64 a0_0, .int .i64 a0_1, .slice A0_2 l0_2.length c0_2, .int .i64 a0_3] 26 (0, 0)) (by (with_reducible repeat (first | refine blk_drewN ?_ _ | refine blk_drew ?_ | refine blk_alloc ?_ _)); exact BK365.out) hb)
      have n3_ := Aside0.mk (blk_below (g := gb372) (o := .cells #[.int .i64 t366, .int .i64 t367, .slice Ao15 t368.length co15, .int .i64 t371] 26 (0, 0)) (by (with_reducible repeat (first | refine blk_drewN ?_ _ | refine blk_drew ?_ | refine blk_alloc ?_ _)); exact BK372.out) hb)
      have n4_ := Aside0.mk (below_step (by repeat (first | (with_reducible first | exact HB.out | apply below_alloc | apply pw_below_drewN | apply below_drew1 | refine below_set ?_ GE365.out | refine below_set ?_ GE372.out) | exact HB.out)) hb)
      clear HO370
      clear HO379
      clear BK365
      clear BK372
      clear HB
      have HO370 := n0_
      have HO379 := n1_
      have BK365 := n2_
      have BK372 := n3_
      have HB := n4_
      clear n0_ n1_ n2_ n3_ n4_
      (try clear hb)
      (try clear hb2)
      (try clear hk)
      (try clear hi)
      refine hK.out _ _ ⟨(blk_cell BK372.out 0).trans rfl, (blk_cell BK372.out 1).trans rfl, (blk_cell BK372.out 2).trans rfl, (blk_cell BK372.out 3).trans rfl, (blk_cell BK365.out 0).trans rfl, (blk_cell BK365.out 1).trans rfl, (blk_cell BK365.out 2).trans rfl, (blk_cell BK365.out 3).trans rfl⟩ (fun hHeld => ?_)
      clear hK K
      refine norm_ (a' := ?_) ?_ ?_
      rotate_left
      · show Act.put _ (some 38) _ = _
        simp only [Act.put, List.setIfInBounds_toArray, List.set_cons_zero, List.set_cons_succ, i64_w, i32_w]
        rfl
      refine one_ (i := 9) (N := some 40) #[true, true, true, true, true, true, true, true, true, true, false, false, false, false, false, false, false, false, false, false, false, false, false, false, false, false, false, false, false, false, false] rfl rfl (one_of HT_.out (by kernel_rfl)) (by decide) (fun K hK => ?_)
      refine goes_ Try.func33 (by kernel_rfl) rfl #[.agg #[.int .i64 a0_0, .int .i64 a0_1, .slice A0_2 l0_2.length c0_2, .int .i64 a0_3]] (by rfl) rfl rfl (by (try simp only [List.map_toArray, List.map_cons, List.map_nil]); first | done | rfl | (simp only [List.length_drop, List.length_take]; rfl)) ?_
      with_reducible refine (rialtoref08_Last.calls k a0_0 a0_1 _ _ l0_2 a0_3 t384 t385 _ ?side1 ?side2 A25.out).mono ?_
      (case side1 => repeat (first | exact (Kd.C_below HR0_2.out HB.out) | (with_reducible refine Kd.C_alloc ?_ _) | (with_reducible refine Kd.C_drewN ?_ _) | (with_reducible refine Kd.C_drew ?_)))
      (case side2 => exact HC0_2.out)
      rintro e wyi4 ⟨rfl, hb⟩
      refine ⟨_, rfl, ?_⟩
      have n0_ := Aside0.mk (Kd.R_below (by (with_reducible repeat (first | apply Kd.R_alloc | apply Kd.R_drewN | apply Kd.R_drew)); exact HO370.out) hb)
      have n1_ := Aside0.mk (Kd.R_below (by (with_reducible repeat (first | apply Kd.R_alloc | apply Kd.R_drewN | apply Kd.R_drew)); exact HO379.out) hb)
      have n2_ := Aside0.mk (blk_below (g := gb365) (o := .cells #[.int .i64 a0_0, .int .i64 a0_1, .slice A0_2 l0_2.length c0_2, .int .i64 a0_3] 26 (0, 0)) (by (with_reducible repeat (first | refine blk_drewN ?_ _ | refine blk_drew ?_ | refine blk_alloc ?_ _)); exact BK365.out) hb)
      have n3_ := Aside0.mk (blk_below (g := gb372) (o := .cells #[.int .i64 t366, .int .i64 t367, .slice Ao15 t368.length co15, .int .i64 t371] 26 (0, 0)) (by (with_reducible repeat (first | refine blk_drewN ?_ _ | refine blk_drew ?_ | refine blk_alloc ?_ _)); exact BK372.out) hb)
      have n4_ := Aside0.mk (below_step (by repeat (first | (with_reducible first | exact HB.out | apply below_alloc | apply pw_below_drewN | apply below_drew1 | refine below_set ?_ GE365.out | refine below_set ?_ GE372.out) | exact HB.out)) hb)
      clear HO370
      clear HO379
      clear BK365
      clear BK372
      clear HB
      have HO370 := n0_
      have HO379 := n1_
      have BK365 := n2_
      have BK372 := n3_
      have HB := n4_
      clear n0_ n1_ n2_ n3_ n4_
      (try clear hb)
      (try clear hb2)
      (try clear hk)
      (try clear hi)
      refine hK.out _ _ ⟨(blk_cell BK372.out 0).trans rfl, (blk_cell BK372.out 1).trans rfl, (blk_cell BK372.out 2).trans rfl, (blk_cell BK372.out 3).trans rfl, (blk_cell BK365.out 0).trans rfl, (blk_cell BK365.out 1).trans rfl, (blk_cell BK365.out 2).trans rfl, (blk_cell BK365.out 3).trans rfl⟩ (fun hHeld => ?_)
      clear hK K
      refine norm_ (a' := ?_) ?_ ?_
      rotate_left
      · show Act.put _ (some 40) _ = _
        simp only [Act.put, List.setIfInBounds_toArray, List.set_cons_zero, List.set_cons_succ, i64_w, i32_w]
        rfl
      refine stepP HT_ 10 (some 41) ?_
      refine stepP HT_ 11 (some 42) ?_
      refine stepP HT_ 12 (some 43) ?_
      refine stepP HT_ 13 (some 44) ?_
      refine stepP HT_ 14 (some 45) ?_
      refine stepP HT_ 15 (some 46) ?_
      refine stepP HT_ 16 (some 47) ?_
      refine stepP HT_ 17 (some 48) ?_
      refine stepU HT_ 18 (some 49) ?_
      refine stepU HT_ 19 (some 50) ?_
      refine stepU HT_ 20 (some 51) ?_
      refine stepP HT_ 21 (some 52) ?_
      refine stepP HT_ 22 (some 53) ?_
      refine stepU HT_ 23 (some 54) ?_
      refine stepU HT_ 24 (some 55) ?_
      refine stepU HT_ 25 (some 56) ?_
      refine stepU HT_ 26 (some 57) ?_
      refine stepU HT_ 27 (some 58) ?_
      refine stepU HT_ 28 (some 59) ?_
      refine stepU HT_ 29 (some 60) ?_
      refine stepP HT_ 30 (some 61) ?_
      refine done_ (done_of HT_.out (by kernel_rfl)) ?_
      try go_wp2
      go_meet
      case rel => exact ⟨_, (true), (by first | rfl | (simp; done) | (simp [*]; done)), H', ⟨by first | omega | exact Nat.le_refl _⟩, ⟨by (with_reducible repeat (first | apply Kd.R_alloc | apply Kd.R_drewN | apply Kd.R_drew)); exact Kd.R_mono HO379.out (fun _ hk => hk.2)⟩, ⟨by (with_reducible repeat (first | apply Kd.R_alloc | apply Kd.R_drewN | apply Kd.R_drew)); exact Kd.R_mono HO370.out (fun _ hk => hk.2)⟩, ⟨by (with_reducible repeat (first | refine blk_drewN ?_ _ | refine blk_drew ?_ | refine blk_alloc ?_ _)); exact BK365.out⟩, ⟨by (with_reducible repeat (first | refine blk_drewN ?_ _ | refine blk_drew ?_ | refine blk_alloc ?_ _)); exact BK372.out⟩, ⟨by repeat (first | (with_reducible first | exact HB.out | apply below_alloc | apply pw_below_drewN | apply below_drew1 | refine below_set ?_ GE365.out | refine below_set ?_ GE372.out) | exact HB.out)⟩⟩
    focus
      refine stepU HT_ 6 (some 37) ?_
      refine stepU HT_ 7 (some 38) ?_
      refine stepU HT_ 8 (some 39) ?_
      refine stepU HT_ 9 (some 40) ?_
      refine stepU HT_ 10 (some 41) ?_
      refine stepP HT_ 11 (some 42) ?_
      refine stepP HT_ 12 (some 43) ?_
      refine stepU HT_ 13 (some 44) ?_
      refine stepU HT_ 14 (some 45) ?_
      refine stepU HT_ 15 (some 46) ?_
      refine stepP HT_ 16 (some 47) ?_
      refine stepP HT_ 17 (some 48) ?_
      refine stepU HT_ 18 (some 49) ?_
      refine stepU HT_ 19 (some 50) ?_
      refine stepU HT_ 20 (some 51) ?_
      refine stepP HT_ 21 (some 52) ?_
      refine stepP HT_ 22 (some 53) ?_
      refine stepU HT_ 23 (some 54) ?_
      refine stepU HT_ 24 (some 55) ?_
      refine stepU HT_ 25 (some 56) ?_
      refine stepU HT_ 26 (some 57) ?_
      refine stepU HT_ 27 (some 58) ?_
      refine stepU HT_ 28 (some 59) ?_
      refine stepU HT_ 29 (some 60) ?_
      refine stepP HT_ 30 (some 61) ?_
      refine done_ (done_of HT_.out (by kernel_rfl)) ?_
      try go_wp2
      go_meet
      case rel => exact ⟨_, (true), (by first | rfl | (simp; done) | (simp [*]; done)), H', ⟨by first | omega | exact Nat.le_refl _⟩, ⟨by (with_reducible repeat (first | apply Kd.R_alloc | apply Kd.R_drewN | apply Kd.R_drew)); exact Kd.R_mono HO379.out (fun _ hk => hk.2)⟩, ⟨by (with_reducible repeat (first | apply Kd.R_alloc | apply Kd.R_drewN | apply Kd.R_drew)); exact Kd.R_mono HO370.out (fun _ hk => hk.2)⟩, ⟨by (with_reducible repeat (first | refine blk_drewN ?_ _ | refine blk_drew ?_ | refine blk_alloc ?_ _)); exact BK365.out⟩, ⟨by (with_reducible repeat (first | refine blk_drewN ?_ _ | refine blk_drew ?_ | refine blk_alloc ?_ _)); exact BK372.out⟩, ⟨by repeat (first | (with_reducible first | exact HB.out | apply below_alloc | apply pw_below_drewN | apply below_drew1 | refine below_set ?_ GE365.out | refine below_set ?_ GE372.out) | exact HB.out)⟩⟩
  case rest =>
    clear HC8
    obtain ⟨kq, x61_7, rfl, HA, HJ7, HO_12, HO_373002, BK365, BK372, HB⟩ := hcut
    cases kq with
    | zero => exact absurd HA.out (by simp [rialtolaw08_EntriesTell.j0])
    | succ kj7 =>
      have H := HA.out
      clear HA
      simp only [rialtolaw08_EntriesTell.j0] at H
      by_cases c57 : x61_7 = true
      focus
        subst c57
        have H1 : (some false) = some r := by rw [if_pos rfl] at H; exact H
        clear H
        have H := H1
        clear H1
        obtain rfl := Option.some.inj H
      rotate_left 1
      focus
        replace c57 := Bool.eq_false_iff.mpr c57
        subst c57
        have H1 : ((rialtolaw08_spoil.f kj7 t377).bind fun t390 => ((rialtoref08_Same.f kj7 t366 t367 t368 t371 a0_0 a0_1 l0_2 a0_3).bind fun t391 => (if t391 = true then ((rialtolaw08_live.f kj7).bind fun t392 => (some t392)) else (some false)))) = some r := by rw [if_neg (show ¬ (false = true) by decide)] at H; exact H
        clear H
        have H := H1
        clear H1
        replace H := Option.bind_eq_some_iff.mp H
        obtain ⟨t390, A580, H⟩ := H
        replace H : ((rialtoref08_Same.f kj7 t366 t367 t368 t371 a0_0 a0_1 l0_2 a0_3).bind fun t391 => (if t391 = true then ((rialtolaw08_live.f kj7).bind fun t392 => (some t392)) else (some false))) = some r := H
        have A58 := Aside0.mk A580
        clear A580
        replace H := Option.bind_eq_some_iff.mp H
        obtain ⟨t391, A590, H⟩ := H
        replace H : (if t391 = true then ((rialtolaw08_live.f kj7).bind fun t392 => (some t392)) else (some false)) = some r := H
        have A59 := Aside0.mk A590
        clear A590
        by_cases c60 : t391 = true
        focus
          subst c60
          have H1 : ((rialtolaw08_live.f kj7).bind fun t392 => (some t392)) = some r := by rw [if_pos rfl] at H; exact H
          clear H
          have H := H1
          clear H1
          replace H := Option.bind_eq_some_iff.mp H
          obtain ⟨t392, A610, H⟩ := H
          replace H : (some t392) = some r := H
          have A61 := Aside0.mk A610
          clear A610
          obtain rfl := Option.some.inj H
        rotate_left 1
        focus
          replace c60 := Bool.eq_false_iff.mpr c60
          subst c60
          have H1 : (some false) = some r := by rw [if_neg (show ¬ (false = true) by decide)] at H; exact H
          clear H
          have H := H1
          clear H1
          obtain rfl := Option.some.inj H
        rotate_left 1
      rotate_left 2
      focus
        go_wp2
        go_ret
        exact ⟨by first | rfl | (simp [errW_none, errW_some] <;> rfl) | (simp [*, errW_none, errW_some] <;> rfl), by repeat (first | (with_reducible first | exact HB.out | apply below_alloc | apply pw_below_drewN | apply below_drew1 | refine below_set ?_ GE365.out | refine below_set ?_ GE372.out) | exact HB.out)⟩
      iterate 2
        focus
          obtain ⟨Aoyi0, coyi0, eoyi0⟩ := Kd.R_slice HO_12.out
          subst eoyi0
          go_wp2_with (first | ((with_reducible refine gate_callee (f := 23) rfl ?_); refine goesL_ (some 63) rfl rfl Try.func23 (by kernel_rfl) rfl #[.slice Aoyi0 t377.length coyi0] rfl (by (try simp only [List.map_toArray, List.map_cons, List.map_nil]); first | done | rfl | (simp only [List.length_drop, List.length_take]; rfl)) ?_; (with_reducible refine (rialtolaw08_spoil.calls kj7 (fun k_ => some k_ = (.slice Aoyi0 t377.length coyi0 : Value).ownBlock) (.slice Aoyi0 t377.length coyi0) t377 t390 w _ ?side1 ?side2 A58.out).mono ?_); (case side1 => repeat (first | (with_reducible first | exact HB.out | apply below_alloc | apply pw_below_drewN | apply below_drew1 | refine below_set ?_ GE365.out | refine below_set ?_ GE372.out) | exact HB.out)); (case side2 => exact Kd.R_tight rfl HO_12.out); rintro e wx63i0 ⟨rfl, hy0, hb, hkp⟩; refine ⟨_, rfl, ?_⟩; have n0_ := Aside0.mk (Kd.R_reok rfl hy0 (fun k_ e_ => HO_12.out.1 k_ e_)); have n1_ := Aside0.mk (Kd.R_mono (ok' := fun k_ => some k_ ≠ (.slice Aoyi0 t377.length coyi0 : Value).ownBlock) (Kd.R_keptB (HO_373002.out) hkp (fun k_ hk_ hs_ => (hk_) hs_)) (fun k_ hk_ => hk_.1)); have n2_ := Aside0.mk (blk_kept (by (with_reducible repeat (first | refine blk_drewN ?_ _ | refine blk_drew ?_ | refine blk_alloc ?_ _)); exact BK365.out) hkp (fun hs_ => (fun e_ => (Kd.R_ne HO_12.out BK365.out (by decide)) e_) hs_)); have n3_ := Aside0.mk (blk_kept (by (with_reducible repeat (first | refine blk_drewN ?_ _ | refine blk_drew ?_ | refine blk_alloc ?_ _)); exact BK372.out) hkp (fun hs_ => (fun e_ => (Kd.R_ne HO_12.out BK372.out (by decide)) e_) hs_)); have n4_ := Aside0.mk (hb); clear HO_12; clear HO_373002; clear BK365; clear BK372; clear HB; have HO_12 := n0_; have HO_373002 := n1_; have BK365 := n2_; have BK372 := n3_; have HB := n4_; clear n0_ n1_ n2_ n3_ n4_; (try clear hb); (try clear hkp); (try clear hy0); have hnbx63b372_365 := NB372_365.out; have hncx63b365_372 := NB365_372.out; have hczx63b372_0 : wx63i0.cell? ⟨gb372, 0, none⟩ = some (.int .i64 t366) := (blk_cell BK372.out 0).trans rfl; have hczx63b372_1 : wx63i0.cell? ⟨gb372, 1, none⟩ = some (.int .i64 t367) := (blk_cell BK372.out 1).trans rfl; have hczx63b372_2 : wx63i0.cell? ⟨gb372, 2, none⟩ = some (.slice Ao15 t368.length co15) := (blk_cell BK372.out 2).trans rfl; have hczx63b372_3 : wx63i0.cell? ⟨gb372, 3, none⟩ = some (.int .i64 t371) := (blk_cell BK372.out 3).trans rfl; have hfzx63b372_0 := blk_frozen BK372.out 0; have hfzx63b372_1 := blk_frozen BK372.out 1; have hfzx63b372_2 := blk_frozen BK372.out 2; have hfzx63b372_3 := blk_frozen BK372.out 3; have hczx63b365_0 : wx63i0.cell? ⟨gb365, 0, none⟩ = some (.int .i64 a0_0) := (blk_cell BK365.out 0).trans rfl; have hczx63b365_1 : wx63i0.cell? ⟨gb365, 1, none⟩ = some (.int .i64 a0_1) := (blk_cell BK365.out 1).trans rfl; have hczx63b365_2 : wx63i0.cell? ⟨gb365, 2, none⟩ = some (.slice A0_2 l0_2.length c0_2) := (blk_cell BK365.out 2).trans rfl; have hczx63b365_3 : wx63i0.cell? ⟨gb365, 3, none⟩ = some (.int .i64 a0_3) := (blk_cell BK365.out 3).trans rfl; have hfzx63b365_0 := blk_frozen BK365.out 0; have hfzx63b365_1 := blk_frozen BK365.out 1; have hfzx63b365_2 := blk_frozen BK365.out 2; have hfzx63b365_3 := blk_frozen BK365.out 3) | ((with_reducible refine gate_callee (f := 16) rfl ?_); refine goesL_ (some 66) rfl rfl Try.func16 (by kernel_rfl) rfl #[.agg #[.int .i64 t366, .int .i64 t367, .slice Ao15 t368.length co15, .int .i64 t371], .agg #[.int .i64 a0_0, .int .i64 a0_1, .slice A0_2 l0_2.length c0_2, .int .i64 a0_3]] rfl (by (try simp only [List.map_toArray, List.map_cons, List.map_nil]); first | done | rfl | (simp only [List.length_drop, List.length_take]; rfl)) ?_; (with_reducible refine (rialtoref08_Same.calls kj7 t366 t367 _ _ t368 t371 a0_0 a0_1 _ _ l0_2 a0_3 _ _ ?side1 ?side2 ?side3 ?side4 A59.out).mono ?_); (case side1 => repeat (first | exact (Kd.R_reads' HO_373002.out).2.2 | (with_reducible refine Kd.C_alloc ?_ _) | (with_reducible refine Kd.C_drewN ?_ _) | (with_reducible refine Kd.C_drew ?_))); (case side2 => exact (Kd.R_reads' HO_373002.out).2.1); (case side3 => repeat (first | exact (Kd.C_below HR0_2.out HB.out) | (with_reducible refine Kd.C_alloc ?_ _) | (with_reducible refine Kd.C_drewN ?_ _) | (with_reducible refine Kd.C_drew ?_))); (case side4 => exact HC0_2.out); rintro e wx66i0 ⟨rfl, hb⟩; refine ⟨_, rfl, ?_⟩; have n0_ := Aside0.mk (Kd.R_below (by (with_reducible repeat (first | apply Kd.R_alloc | apply Kd.R_drewN | apply Kd.R_drew)); exact HO_12.out) hb); have n1_ := Aside0.mk (Kd.R_below (by (with_reducible repeat (first | apply Kd.R_alloc | apply Kd.R_drewN | apply Kd.R_drew)); exact HO_373002.out) hb); have n2_ := Aside0.mk (blk_below (g := gb365) (o := .cells #[.int .i64 a0_0, .int .i64 a0_1, .slice A0_2 l0_2.length c0_2, .int .i64 a0_3] 26 (0, 0)) (by (with_reducible repeat (first | refine blk_drewN ?_ _ | refine blk_drew ?_ | refine blk_alloc ?_ _)); exact BK365.out) hb); have n3_ := Aside0.mk (blk_below (g := gb372) (o := .cells #[.int .i64 t366, .int .i64 t367, .slice Ao15 t368.length co15, .int .i64 t371] 26 (0, 0)) (by (with_reducible repeat (first | refine blk_drewN ?_ _ | refine blk_drew ?_ | refine blk_alloc ?_ _)); exact BK372.out) hb); have n4_ := Aside0.mk (below_step (by repeat (first | (with_reducible first | exact HB.out | apply below_alloc | apply pw_below_drewN | apply below_drew1 | refine below_set ?_ GE365.out | refine below_set ?_ GE372.out) | exact HB.out)) hb); clear HO_12; clear HO_373002; clear BK365; clear BK372; clear HB; have HO_12 := n0_; have HO_373002 := n1_; have BK365 := n2_; have BK372 := n3_; have HB := n4_; clear n0_ n1_ n2_ n3_ n4_; (try clear hb); (try clear hb2); (try clear hk); (try clear hi)) | (go_at_call 24; (with_reducible refine (rialtolaw08_live.calls kj7  t392 _ A61.out).mono ?_); rintro e wyi0 ⟨rfl, hb⟩; have n0_ := Aside0.mk (Kd.R_below (by (with_reducible repeat (first | apply Kd.R_alloc | apply Kd.R_drewN | apply Kd.R_drew)); exact HO_12.out) hb); have n1_ := Aside0.mk (Kd.R_below (by (with_reducible repeat (first | apply Kd.R_alloc | apply Kd.R_drewN | apply Kd.R_drew)); exact HO_373002.out) hb); have n2_ := Aside0.mk (blk_below (g := gb365) (o := .cells #[.int .i64 a0_0, .int .i64 a0_1, .slice A0_2 l0_2.length c0_2, .int .i64 a0_3] 26 (0, 0)) (by (with_reducible repeat (first | refine blk_drewN ?_ _ | refine blk_drew ?_ | refine blk_alloc ?_ _)); exact BK365.out) hb); have n3_ := Aside0.mk (blk_below (g := gb372) (o := .cells #[.int .i64 t366, .int .i64 t367, .slice Ao15 t368.length co15, .int .i64 t371] 26 (0, 0)) (by (with_reducible repeat (first | refine blk_drewN ?_ _ | refine blk_drew ?_ | refine blk_alloc ?_ _)); exact BK372.out) hb); have n4_ := Aside0.mk (below_step (by repeat (first | (with_reducible first | exact HB.out | apply below_alloc | apply pw_below_drewN | apply below_drew1 | refine below_set ?_ GE365.out | refine below_set ?_ GE372.out) | exact HB.out)) hb); clear HO_12; clear HO_373002; clear BK365; clear BK372; clear HB; have HO_12 := n0_; have HO_373002 := n1_; have BK365 := n2_; have BK372 := n3_; have HB := n4_; clear n0_ n1_ n2_ n3_ n4_; (try clear hb); (try clear hb2); (try clear hk); (try clear hi)))
          go_ret
          exact ⟨by first | rfl | (simp [errW_none, errW_some] <;> rfl) | (simp [*, errW_none, errW_some] <;> rfl), by repeat (first | (with_reducible first | exact HB.out | apply below_alloc | apply pw_below_drewN | apply below_drew1 | refine below_set ?_ GE365.out | refine below_set ?_ GE372.out) | exact HB.out)⟩

end Go.Proofs.Ytiebeiloooblpaa.E
end
section
-- the statement of a law, by myprint.py
namespace Go.Proofs.Ytiebeiloooblpaa.E
open Go.RowKit Go.Proofs.YtiebeiloooblpaaW.PrintWords Go.Proofs.YtiebeiloooblpaaW.PrintLast Go.Proofs.YtiebeiloooblpaaW.PrintMore
attribute [local go_sem] max2_int min2_int max_two min_two max_three min_three max_four min_four   -- for this text's walks alone
set_option linter.unusedVariables false
set_option linter.unusedSimpArgs false

def GEl33 (x : S33) : Prop := ((Lit.int .i64 x.f0).wf = true) ∧ ((Lit.int .i64 x.f1).wf = true) ∧ x.f2.size ≤ 140737488351232
/-- THE PURE STATEMENT of rialtolaw08_EntriesTell. -/
def rialtolaw08_EntriesTell.Pure : Prop := ∀ (a0_0 : Int) (a0_1 : Int) (l0_2 : List (S33)) (a0_3 : Int) (a1 : Int) (a2 : Int), ((Lit.int .i64 a0_0).wf = true) → ((Lit.int .i64 a0_1).wf = true) → (l0_2.length * 32 ≤ 140737488351232 ∧ ∀ y_ ∈ l0_2, GEl33 y_) → ((Lit.int .i64 a0_3).wf = true) → ((Lit.int .i64 a1).wf = true) → ((Lit.int .i64 a2).wf = true) → ∃ k, rialtolaw08_EntriesTell.f k a0_0 a0_1 l0_2 a0_3 a1 a2 = some true
end Go.Proofs.Ytiebeiloooblpaa.E
end
section
/- Rounds: from some round on a function answers; words for plain laws. -/
namespace Go.Proofs.YtiebeiloooblpaaW.PrintWords
theorem Ev.eqv {α : Type} {F : Nat → Option α} {v u : α} (h : Ev F u) (e : u = v) : Ev F v := e ▸ h
theorem Ev.ite {α : Type} {c : Prop} [Decidable c] {F G : Nat → Option α} {v : α} (h : c → Ev F v) (g : ¬ c → Ev G v) : Ev (fun k => if c then F k else G k) v := by
  by_cases hc : c
  · simpa [hc] using h hc
  · simpa [hc] using g hc
theorem Ev.pos {α : Type} {c : Prop} [Decidable c] {F G : Nat → Option α} {v : α} (hc : c) (h : Ev F v) : Ev (fun k => if c then F k else G k) v := by
  simpa [hc] using h
theorem Ev.neg {α : Type} {c : Prop} [Decidable c] {F G : Nat → Option α} {v : α} (hc : ¬ c) (h : Ev G v) : Ev (fun k => if c then F k else G k) v := by
  simpa [hc] using h
theorem Ev.succ {α : Type} {F : Nat → Option α} {v : α} (h : Ev (fun k => F (k + 1)) v) : Ev F v := Ev.step (fun _ => rfl) h
end Go.Proofs.YtiebeiloooblpaaW.PrintWords
namespace Go.Proofs.YtiebeiloooblpaaEV
open Go.RowKit Go.Proofs.YtiebeiloooblpaaW.PrintWords
theorem w64 (n : Int) (h0 : -9223372036854775808 ≤ n) (h1 : n ≤ 9223372036854775807) : wrap64 n = n := by
  unfold wrap64; omega
theorem drop_one {α : Type} (l : List α) (d : α) (n : Nat) (h : n < l.length) : l.drop n = l.getD n d :: l.drop (n + 1) := by
  rw [List.drop_eq_getElem_cons h]; simp [List.getD, h]
end Go.Proofs.YtiebeiloooblpaaEV
end
