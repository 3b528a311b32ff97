/- Part 5 of the proof of EntriesAdvance: the texts that it needs, put together by a program of this session. -/
import Derived.Test.YtiebeiloooblpaaMEntriesAdvance4
section
-- written by myprint.py, a program of this session over the kit's print.py
namespace Go.Proofs.Ytiebeiloooblpaa.E
open Go.Proofs.YtiebeiloooblpaaST
open Go.RowKit Go.Proofs.YtiebeiloooblpaaW.PrintWords Go.Proofs.YtiebeiloooblpaaW.PrintLast Go.Proofs.YtiebeiloooblpaaW.PrintMore
attribute [local go_sem] max2_int min2_int max_two min_two max_three min_three max_four min_four   -- for this text's walks alone
set_option linter.unusedVariables false
set_option linter.unusedSimpArgs false

/-! ### entries_Last: function 32 -/
def entries_Last.f (k : Nat) (a0_0 : Int) (a0_1 : Int) (l0_2 : List (S33)) (a0_3 : Int) : Option (Int × Int) := (entries_Check.f k a0_0 a0_1 l0_2 a0_3).bind fun t282 => (if t282 = 0 then ((entries_end.f a0_0 a0_1 l0_2 a0_3).bind fun t283 => ((entries_TermAt.f k a0_0 a0_1 l0_2 a0_3 t283).bind fun bt284 => ((entries_end.f a0_0 a0_1 l0_2 a0_3).bind fun t286 => (some (t286, bt284.1))))) else (some (0, 0)))
theorem entries_Last.mono : ∀ a0 a1 a2 a3 k, LeO (entries_Last.f k a0 a1 a2 a3) (entries_Last.f (k + 1) a0 a1 a2 a3) := by
  intro a0 a1 a2 a3 k
  unfold entries_Last.f
  repeat' first
      | (with_reducible exact entries_Check.mono _ _ _ _ _)
      | (with_reducible exact entries_TermAt.mono _ _ _ _ _ _)
      | (with_reducible exact LeO.refl _)
      | (with_reducible exact LeO.none _)
      | (with_reducible refine LeO.ite ?_ ?_)
      | (with_reducible refine LeO.bind ?_ (fun _ => ?_))
      | exact entries_Check.mono _ _ _ _ _
      | exact entries_TermAt.mono _ _ _ _ _ _
      | exact LeO.none _
      | refine LeO.ite ?_ ?_
      | refine LeO.bind ?_ (fun _ => ?_)
def entries_Last.T3 : Bool × List (List Nat × List Nat) := (true, [([], []), ([], []), ([1], [1]), ([0, 2, 2], [0, 2]), ([3], [3]), ([4], [4]), ([4], [4]), ([5, 3, 0, 1, 2, 3, 4, 5], [5]), ([6, 7, 0, 1, 2, 3, 4, 5, 6, 7], [6])])
def entries_Last.B3 : List Nat := [0, 0, 2, 7, 15, 31, 31, 63, 255]
theorem entries_Last.tab3 : rtab .any (opsOf Try.f32 3) = entries_Last.T3 := by kernel_rfl
theorem entries_Last.bits3 : waitsOk entries_Last.T3.2 entries_Last.B3 = true := by kernel_rfl
set_option maxHeartbeats 8000000 in
set_option maxRecDepth 100000 in
theorem entries_Last.calls (k : Nat) (a0_0 : Int) (a0_1 : Int) (A0_2 : Option Addr) (c0_2 : Nat) (l0_2 : List (S33)) (a0_3 : Int) (r1 : Int) (r2 : Int) (w : World) (hr0_2 : Kd.C k33 w A0_2 l0_2.length l0_2) (hc0_2 : l0_2.length ≤ c0_2) (h : entries_Last.f k a0_0 a0_1 l0_2 a0_3 = some (r1, r2)) :
    Calls Try.prog 32 #[.agg #[.int .i64 a0_0, .int .i64 a0_1, .slice A0_2 l0_2.length c0_2, .int .i64 a0_3]] w fun e w' => e = .returned (.agg #[.int .i64 r1, .int .i64 r2]) ∧ Below w.heap.size w w' := by
  have hu26 := Try.underlying26
  have hu23 := Try.underlying23
  have HR0_2 := Aside0.mk hr0_2
  have HC0_2 := Aside0.mk hc0_2
  clear hr0_2 hc0_2
  have HB := Aside0.mk (Below.refl w.heap.size w)
  have H : ((entries_Check.f k a0_0 a0_1 l0_2 a0_3).bind fun t282 => (if t282 = 0 then ((entries_end.f a0_0 a0_1 l0_2 a0_3).bind fun t283 => ((entries_TermAt.f k a0_0 a0_1 l0_2 a0_3 t283).bind fun bt284 => ((entries_end.f a0_0 a0_1 l0_2 a0_3).bind fun t286 => (some (t286, bt284.1))))) else (some (0, 0)))) = some (r1, r2) := h
  clear h
  replace H := Option.bind_eq_some_iff.mp H
  obtain ⟨t282, A20, H⟩ := H
  replace H : (if t282 = 0 then ((entries_end.f a0_0 a0_1 l0_2 a0_3).bind fun t283 => ((entries_TermAt.f k a0_0 a0_1 l0_2 a0_3 t283).bind fun bt284 => ((entries_end.f a0_0 a0_1 l0_2 a0_3).bind fun t286 => (some (t286, bt284.1))))) else (some (0, 0))) = some (r1, r2) := H
  have A2 := Aside0.mk A20
  clear A20
  by_cases c3 : t282 = 0
  · rw [if_pos c3] at H
    have c3b0 : (t282 == 0) = true := beq_iff_eq.mpr c3
    have c3b1 : (t282 != 0) = false := bne_eq_false_iff_eq.mpr c3
    clear c3
    replace H := Option.bind_eq_some_iff.mp H
    obtain ⟨t283, A40, H⟩ := H
    replace H : ((entries_TermAt.f k a0_0 a0_1 l0_2 a0_3 t283).bind fun bt284 => ((entries_end.f a0_0 a0_1 l0_2 a0_3).bind fun t286 => (some (t286, bt284.1)))) = some (r1, r2) := H
    have A4 := Aside0.mk A40
    clear A40
    replace H := Option.bind_eq_some_iff.mp H
    obtain ⟨⟨t284, t285⟩, A50, H⟩ := H
    replace H : ((entries_end.f a0_0 a0_1 l0_2 a0_3).bind fun t286 => (some (t286, t284))) = some (r1, r2) := H
    have A5 := Aside0.mk A50
    clear A50
    replace H := Option.bind_eq_some_iff.mp H
    obtain ⟨t286, A60, H⟩ := H
    replace H : (some (t286, t284)) = some (r1, r2) := H
    have A6 := Aside0.mk A60
    clear A60
    simp only [Option.some.injEq, Prod.mk.injEq] at H
    obtain ⟨rfl, rfl⟩ := H
    go_enter Try.func32, Try.ntmps32
    try go_wp2_with (first | ((with_reducible refine gate_dst (N := 1) rfl ?_); refine box_event ?hg (N := 1) ?hd (cs := #[.int .i64 a0_0, .int .i64 a0_1, .slice A0_2 l0_2.length c0_2, .int .i64 a0_3]) (t := 26) ?hr ?_; (case hd => rfl); (case hg => rfl); (case hr => first | (go_simp; done) | (go_simp; rfl)); intro gb280 hg w7 hbox hb; have n0_ := Aside0.mk (below_step (by repeat (first | (with_reducible first | exact HB.out | apply below_alloc | apply pw_below_drewN | apply below_drew1) | exact HB.out)) hb); have n1_ := Aside0.mk (hbox); have n2_ := Aside0.mk ((by rw [hg]; exact (below_size (by repeat (first | (with_reducible first | exact HB.out | apply below_alloc | apply pw_below_drewN | apply below_drew1) | exact HB.out))) : w.heap.size ≤ gb280)); have n3_ := Aside0.mk ((by rw [hg]; exact (below_size (by repeat (first | (with_reducible first | exact HB.out | apply below_alloc | apply pw_below_drewN | apply below_drew1) | exact HB.out))) : w.heap.size ≤ gb280)); clear HB; have HB := n0_; have BK280 := n1_; have GW280 := n2_; have GE280 := n3_; clear n0_ n1_ n2_ n3_; clear hb hbox hg) | ((with_reducible refine gate_dst (N := 2) rfl ?_); refine box_event ?hg (N := 2) ?hd (cs := #[.int .i64 0, .int .i64 0]) (t := 23) ?hr ?_; (case hd => rfl); (case hg => rfl); (case hr => first | (go_simp; done) | (go_simp; rfl)); intro gb281 hg w8 hbox hb; have n0_ := Aside0.mk (blk_below (g := gb280) (o := .cells #[.int .i64 a0_0, .int .i64 a0_1, .slice A0_2 l0_2.length c0_2, .int .i64 a0_3] 26 (0, 0)) (by (with_reducible repeat (first | refine blk_drewN ?_ _ | refine blk_drew ?_ | refine blk_alloc ?_ _)); exact BK280.out) hb); have n1_ := Aside0.mk (below_step (by repeat (first | (with_reducible first | exact HB.out | apply below_alloc | apply pw_below_drewN | apply below_drew1 | refine below_set ?_ GE280.out) | exact HB.out)) hb); have n2_ := Aside0.mk (hbox); have n3_ := Aside0.mk ((by rw [hg]; exact (below_size (by repeat (first | (with_reducible first | exact HB.out | apply below_alloc | apply pw_below_drewN | apply below_drew1 | refine below_set ?_ GE280.out) | exact HB.out))) : w.heap.size ≤ gb281)); have n4_ := Aside0.mk ((by rw [hg]; exact (below_size (by repeat (first | (with_reducible first | exact HB.out | apply below_alloc | apply pw_below_drewN | apply below_drew1 | refine below_set ?_ GE280.out) | exact HB.out))) : w.heap.size ≤ gb281)); have n5_ := Aside0.mk ((by rw [hg]; exact Nat.ne_of_lt (blk_lt (g := gb280) (o := .cells #[.int .i64 a0_0, .int .i64 a0_1, .slice A0_2 l0_2.length c0_2, .int .i64 a0_3] 26 (0, 0)) (by (with_reducible repeat (first | refine blk_drewN ?_ _ | refine blk_drew ?_ | refine blk_alloc ?_ _)); exact BK280.out)) : gb280 ≠ gb281)); have n6_ := Aside0.mk ((by rw [hg]; exact Nat.ne_of_gt (blk_lt (g := gb280) (o := .cells #[.int .i64 a0_0, .int .i64 a0_1, .slice A0_2 l0_2.length c0_2, .int .i64 a0_3] 26 (0, 0)) (by (with_reducible repeat (first | refine blk_drewN ?_ _ | refine blk_drew ?_ | refine blk_alloc ?_ _)); exact BK280.out)) : gb281 ≠ gb280)); clear BK280; clear HB; have BK280 := n0_; have HB := n1_; have BK281 := n2_; have GW281 := n3_; have GE281 := n4_; have NB280_281 := n5_; have NB281_280 := n6_; clear n0_ n1_ n2_ n3_ n4_ n5_ n6_; clear hb hbox hg; have hnb9 := NB280_281.out; have hnc9 := NB281_280.out; have hcz10_0 : w8.cell? ⟨gb280, 0, none⟩ = some (.int .i64 a0_0) := (blk_cell BK280.out 0).trans rfl; have hcz10_1 : w8.cell? ⟨gb280, 1, none⟩ = some (.int .i64 a0_1) := (blk_cell BK280.out 1).trans rfl; have hcz10_2 : w8.cell? ⟨gb280, 2, none⟩ = some (.slice A0_2 l0_2.length c0_2) := (blk_cell BK280.out 2).trans rfl; have hcz10_3 : w8.cell? ⟨gb280, 3, none⟩ = some (.int .i64 a0_3) := (blk_cell BK280.out 3).trans rfl; have hfz10_0 := blk_frozen BK280.out 0; have hfz10_1 := blk_frozen BK280.out 1; have hfz10_2 := blk_frozen BK280.out 2; have hfz10_3 := blk_frozen BK280.out 3) | ((with_reducible refine gate_callee (f := 30) rfl ?_); refine goesL_ (some 6) rfl rfl Try.func30 (by kernel_rfl) rfl #[.agg #[.int .i64 a0_0, .int .i64 a0_1, .slice A0_2 l0_2.length c0_2, .int .i64 a0_3]] rfl (by (try simp only [List.map_toArray, List.map_cons, List.map_nil]); first | done | rfl | (simp only [List.length_drop, List.length_take]; rfl)) ?_; (with_reducible refine (entries_Check.calls k a0_0 a0_1 _ _ l0_2 a0_3 t282 _ ?side1 ?side2 A2.out).mono ?_); (case side1 => repeat (first | exact (Kd.C_below HR0_2.out HB.out) | (with_reducible refine Kd.C_alloc ?_ _) | (with_reducible refine Kd.C_drewN ?_ _) | (with_reducible refine Kd.C_drew ?_))); (case side2 => exact HC0_2.out); rintro e w11 ⟨rfl, hb⟩; refine ⟨_, rfl, ?_⟩; have n0_ := Aside0.mk (blk_below (g := gb280) (o := .cells #[.int .i64 a0_0, .int .i64 a0_1, .slice A0_2 l0_2.length c0_2, .int .i64 a0_3] 26 (0, 0)) (by (with_reducible repeat (first | refine blk_drewN ?_ _ | refine blk_drew ?_ | refine blk_alloc ?_ _)); exact BK280.out) hb); have n1_ := Aside0.mk (blk_below (g := gb281) (o := .cells #[.int .i64 0, .int .i64 0] 23 (0, 0)) (by (with_reducible repeat (first | refine blk_drewN ?_ _ | refine blk_drew ?_ | refine blk_alloc ?_ _)); exact BK281.out) hb); have n2_ := Aside0.mk (below_step (by repeat (first | (with_reducible first | exact HB.out | apply below_alloc | apply pw_below_drewN | apply below_drew1 | refine below_set ?_ GE280.out | refine below_set ?_ GE281.out) | exact HB.out)) hb); clear BK280; clear BK281; clear HB; have BK280 := n0_; have BK281 := n1_; have HB := n2_; clear n0_ n1_ n2_; (try clear hb); (try clear hb2); (try clear hk); (try clear hi)))
    have n0_ := Aside0.mk (blk_drew BK280.out)
    have n1_ := Aside0.mk (blk_drew BK281.out)
    have n2_ := Aside0.mk (below_drew1 HB.out)
    clear BK280
    clear BK281
    clear HB
    have BK280 := n0_
    have BK281 := n1_
    have HB := n2_
    clear n0_ n1_ n2_
    refine start_ (n := 9) (S := fun w' => w'.cell? ⟨gb280, 0, none⟩ = some (.int .i64 a0_0) ∧ w'.cell? ⟨gb280, 1, none⟩ = some (.int .i64 a0_1) ∧ w'.cell? ⟨gb280, 2, none⟩ = some (.slice A0_2 l0_2.length c0_2) ∧ w'.cell? ⟨gb280, 3, none⟩ = some (.int .i64 a0_3)) (ds := []) #[false, false, false, false, false, false, false, false, false] (by kernel_rfl) rfl rfl ⟨(blk_cell BK280.out 0).trans rfl, (blk_cell BK280.out 1).trans rfl, (blk_cell BK280.out 2).trans rfl, (blk_cell BK280.out 3).trans rfl⟩ (fun hHeld => ?_); refine with_tabW entries_Last.tab3 entries_Last.bits3 (fun HT_ HW_ => ?_)
    generalize w11.drew = w12 at BK280 BK281 HB hHeld ⊢
    refine stepT4 HT_ HW_ 0 (some 10) hHeld ?_
    refine stepT4 HT_ HW_ 1 (some 11) hHeld ?_
    refine one_ (i := 2) (N := some 12) #[true, true, true, false, false, false, false, false, false] rfl rfl (one_of HT_.out (by kernel_rfl)) (by decide) (fun K hK => ?_)
    refine goes_ Try.func44 (by kernel_rfl) rfl #[.agg #[.int .i64 a0_0, .int .i64 a0_1, .slice A0_2 l0_2.length c0_2, .int .i64 a0_3]] (by rfl) rfl rfl (by (try simp only [List.map_toArray, List.map_cons, List.map_nil]); first | done | rfl | (simp only [List.length_drop, List.length_take]; rfl)) ?_
    with_reducible refine (entries_end.calls a0_0 a0_1 _ _ l0_2 a0_3 t283 _ ?side1 ?side2 A4.out).mono ?_
    (case side1 => repeat (first | exact (Kd.C_below HR0_2.out HB.out) | (with_reducible refine Kd.C_alloc ?_ _) | (with_reducible refine Kd.C_drewN ?_ _) | (with_reducible refine Kd.C_drew ?_)))
    (case side2 => exact HC0_2.out)
    rintro e w13 ⟨rfl, hb⟩
    refine ⟨_, rfl, ?_⟩
    have n0_ := Aside0.mk (blk_below (g := gb280) (o := .cells #[.int .i64 a0_0, .int .i64 a0_1, .slice A0_2 l0_2.length c0_2, .int .i64 a0_3] 26 (0, 0)) (by (with_reducible repeat (first | refine blk_drewN ?_ _ | refine blk_drew ?_ | refine blk_alloc ?_ _)); exact BK280.out) hb)
    have n1_ := Aside0.mk (blk_below (g := gb281) (o := .cells #[.int .i64 0, .int .i64 0] 23 (0, 0)) (by (with_reducible repeat (first | refine blk_drewN ?_ _ | refine blk_drew ?_ | refine blk_alloc ?_ _)); exact BK281.out) hb)
    have n2_ := Aside0.mk (below_step (by repeat (first | (with_reducible first | exact HB.out | apply below_alloc | apply pw_below_drewN | apply below_drew1 | refine below_set ?_ GE280.out | refine below_set ?_ GE281.out) | exact HB.out)) hb)
    clear BK280
    clear BK281
    clear HB
    have BK280 := n0_
    have BK281 := n1_
    have HB := n2_
    clear n0_ n1_ n2_
    (try clear hb)
    (try clear hb2)
    (try clear hk)
    (try clear hi)
    refine hK.out _ _ ⟨(blk_cell BK280.out 0).trans rfl, (blk_cell BK280.out 1).trans rfl, (blk_cell BK280.out 2).trans rfl, (blk_cell BK280.out 3).trans rfl⟩ (fun hHeld => ?_)
    clear hK K
    refine norm_ (a' := ?_) ?_ ?_
    rotate_left
    · show Act.put _ (some 12) _ = _
      simp only [Act.put, List.setIfInBounds_toArray, List.set_cons_zero, List.set_cons_succ, i64_w, i32_w]
      rfl
    refine one_ (i := 3) (N := some 13) #[true, true, true, true, false, false, false, false, false] rfl rfl (one_of HT_.out (by kernel_rfl)) (by decide) (fun K hK => ?_)
    refine goes_ Try.func27 (by kernel_rfl) rfl #[.agg #[.int .i64 a0_0, .int .i64 a0_1, .slice A0_2 l0_2.length c0_2, .int .i64 a0_3], .int .i64 t283] (by rfl) rfl rfl (by (try simp only [List.map_toArray, List.map_cons, List.map_nil]); first | done | rfl | (simp only [List.length_drop, List.length_take]; rfl)) ?_
    with_reducible refine (entries_TermAt.calls k a0_0 a0_1 _ _ l0_2 a0_3 t283 t284 t285 _ ?side1 ?side2 A5.out).mono ?_
    (case side1 => repeat (first | exact (Kd.C_below HR0_2.out HB.out) | (with_reducible refine Kd.C_alloc ?_ _) | (with_reducible refine Kd.C_drewN ?_ _) | (with_reducible refine Kd.C_drew ?_)))
    (case side2 => exact HC0_2.out)
    rintro e w14 ⟨rfl, hb⟩
    refine ⟨_, rfl, ?_⟩
    have n0_ := Aside0.mk (blk_below (g := gb280) (o := .cells #[.int .i64 a0_0, .int .i64 a0_1, .slice A0_2 l0_2.length c0_2, .int .i64 a0_3] 26 (0, 0)) (by (with_reducible repeat (first | refine blk_drewN ?_ _ | refine blk_drew ?_ | refine blk_alloc ?_ _)); exact BK280.out) hb)
    have n1_ := Aside0.mk (blk_below (g := gb281) (o := .cells #[.int .i64 0, .int .i64 0] 23 (0, 0)) (by (with_reducible repeat (first | refine blk_drewN ?_ _ | refine blk_drew ?_ | refine blk_alloc ?_ _)); exact BK281.out) hb)
    have n2_ := Aside0.mk (below_step (by repeat (first | (with_reducible first | exact HB.out | apply below_alloc | apply pw_below_drewN | apply below_drew1 | refine below_set ?_ GE280.out | refine below_set ?_ GE281.out) | exact HB.out)) hb)
    clear BK280
    clear BK281
    clear HB
    have BK280 := n0_
    have BK281 := n1_
    have HB := n2_
    clear n0_ n1_ n2_
    (try clear hb)
    (try clear hb2)
    (try clear hk)
    (try clear hi)
    refine hK.out _ _ ⟨(blk_cell BK280.out 0).trans rfl, (blk_cell BK280.out 1).trans rfl, (blk_cell BK280.out 2).trans rfl, (blk_cell BK280.out 3).trans rfl⟩ (fun hHeld => ?_)
    clear hK K
    refine norm_ (a' := ?_) ?_ ?_
    rotate_left
    · show Act.put _ (some 13) _ = _
      simp only [Act.put, List.setIfInBounds_toArray, List.set_cons_zero, List.set_cons_succ, i64_w, i32_w]
      rfl
    refine stepP HT_ 4 (some 9) ?_
    refine stepP HT_ 5 (some 14) ?_
    refine stepP HT_ 6 (some 15) ?_
    refine stepP HT_ 7 (some 3) ?_
    refine stepP HT_ 8 (some 4) ?_
    refine done_ (done_of HT_.out (by kernel_rfl)) ?_
    have hcz15_0 : w14.cell? ⟨gb280, 0, none⟩ = some (.int .i64 a0_0) := (blk_cell BK280.out 0).trans rfl
    have hcz15_1 : w14.cell? ⟨gb280, 1, none⟩ = some (.int .i64 a0_1) := (blk_cell BK280.out 1).trans rfl
    have hcz15_2 : w14.cell? ⟨gb280, 2, none⟩ = some (.slice A0_2 l0_2.length c0_2) := (blk_cell BK280.out 2).trans rfl
    have hcz15_3 : w14.cell? ⟨gb280, 3, none⟩ = some (.int .i64 a0_3) := (blk_cell BK280.out 3).trans rfl
    have hfz15_0 := blk_frozen BK280.out 0
    have hfz15_1 := blk_frozen BK280.out 1
    have hfz15_2 := blk_frozen BK280.out 2
    have hfz15_3 := blk_frozen BK280.out 3
    try go_wp2_with (first | ((with_reducible refine gate_callee (f := 44) rfl ?_); refine goesL_ (some 17) rfl rfl Try.func44 (by kernel_rfl) rfl #[.agg #[.int .i64 a0_0, .int .i64 a0_1, .slice A0_2 l0_2.length c0_2, .int .i64 a0_3]] rfl (by (try simp only [List.map_toArray, List.map_cons, List.map_nil]); first | done | rfl | (simp only [List.length_drop, List.length_take]; rfl)) ?_; (with_reducible refine (entries_end.calls a0_0 a0_1 _ _ l0_2 a0_3 t286 _ ?side1 ?side2 A6.out).mono ?_); (case side1 => repeat (first | exact (Kd.C_below HR0_2.out HB.out) | (with_reducible refine Kd.C_alloc ?_ _) | (with_reducible refine Kd.C_drewN ?_ _) | (with_reducible refine Kd.C_drew ?_))); (case side2 => exact HC0_2.out); rintro e w16 ⟨rfl, hb⟩; refine ⟨_, rfl, ?_⟩; have n0_ := Aside0.mk (blk_below (g := gb280) (o := .cells #[.int .i64 a0_0, .int .i64 a0_1, .slice A0_2 l0_2.length c0_2, .int .i64 a0_3] 26 (0, 0)) (by (with_reducible repeat (first | refine blk_drewN ?_ _ | refine blk_drew ?_ | refine blk_alloc ?_ _)); exact BK280.out) hb); have n1_ := Aside0.mk (blk_below (g := gb281) (o := .cells #[.int .i64 0, .int .i64 0] 23 (0, 0)) (by (with_reducible repeat (first | refine blk_drewN ?_ _ | refine blk_drew ?_ | refine blk_alloc ?_ _)); exact BK281.out) hb); have n2_ := Aside0.mk (below_step (by repeat (first | (with_reducible first | exact HB.out | apply below_alloc | apply pw_below_drewN | apply below_drew1 | refine below_set ?_ GE280.out | refine below_set ?_ GE281.out) | exact HB.out)) hb); clear BK280; clear BK281; clear HB; have BK280 := n0_; have BK281 := n1_; have HB := n2_; clear n0_ n1_ n2_; (try clear hb); (try clear hb2); (try clear hk); (try clear hi); have hcz17_0 : w16.cell? ⟨gb281, 0, none⟩ = some (.int .i64 0) := (blk_cell BK281.out 0).trans rfl; have hcz17_1 : w16.cell? ⟨gb281, 1, none⟩ = some (.int .i64 0) := (blk_cell BK281.out 1).trans rfl; have hfz17_0 := blk_frozen BK281.out 0; have hfz17_1 := blk_frozen BK281.out 1))
    refine bodyPost_ret (results_cell_row rfl _ _ gb281 23 #[.int .i64 t286, .int .i64 t284] (0, 0) _ rfl (by (with_reducible repeat (first | refine blk_drewN ?_ _ | refine blk_drew ?_ | refine blk_alloc ?_ _)); refine blk_put (cs := #[.int .i64 t286, .int .i64 0]) ?_ 1 _ rfl; (with_reducible repeat (first | refine blk_drewN ?_ _ | refine blk_drew ?_ | refine blk_alloc ?_ _)); refine blk_put (cs := #[.int .i64 0, .int .i64 0]) ?_ 0 _ rfl; (with_reducible repeat (first | refine blk_drewN ?_ _ | refine blk_drew ?_ | refine blk_alloc ?_ _)); exact BK281.out) Try.underlying23 rfl (by kernel_rfl)) rfl ?_
    exact ⟨by first | rfl | (simp [errW_none, errW_some] <;> rfl) | (simp [*, errW_none, errW_some] <;> rfl), by repeat (first | (with_reducible first | exact HB.out | apply below_alloc | apply pw_below_drewN | apply below_drew1 | refine below_set ?_ GE280.out | refine below_set ?_ GE281.out) | exact HB.out)⟩
  · rw [if_neg c3] at H
    have c3b0 : (t282 == 0) = false := beq_eq_false_iff_ne.mpr c3
    have c3b1 : (t282 != 0) = true := bne_iff_ne.mpr c3
    simp only [Option.some.injEq, Prod.mk.injEq] at H
    obtain ⟨rfl, rfl⟩ := H
    go_enter Try.func32, Try.ntmps32
    go_wp2_with (first | ((with_reducible refine gate_dst (N := 1) rfl ?_); refine box_event ?hg (N := 1) ?hd (cs := #[.int .i64 a0_0, .int .i64 a0_1, .slice A0_2 l0_2.length c0_2, .int .i64 a0_3]) (t := 26) ?hr ?_; (case hd => rfl); (case hg => rfl); (case hr => first | (go_simp; done) | (go_simp; rfl)); intro gb280 hg w18 hbox hb; have n0_ := Aside0.mk (below_step (by repeat (first | (with_reducible first | exact HB.out | apply below_alloc | apply pw_below_drewN | apply below_drew1) | exact HB.out)) hb); have n1_ := Aside0.mk (hbox); have n2_ := Aside0.mk ((by rw [hg]; exact (below_size (by repeat (first | (with_reducible first | exact HB.out | apply below_alloc | apply pw_below_drewN | apply below_drew1) | exact HB.out))) : w.heap.size ≤ gb280)); have n3_ := Aside0.mk ((by rw [hg]; exact (below_size (by repeat (first | (with_reducible first | exact HB.out | apply below_alloc | apply pw_below_drewN | apply below_drew1) | exact HB.out))) : w.heap.size ≤ gb280)); clear HB; have HB := n0_; have BK280 := n1_; have GW280 := n2_; have GE280 := n3_; clear n0_ n1_ n2_ n3_; clear hb hbox hg) | ((with_reducible refine gate_dst (N := 2) rfl ?_); refine box_event ?hg (N := 2) ?hd (cs := #[.int .i64 0, .int .i64 0]) (t := 23) ?hr ?_; (case hd => rfl); (case hg => rfl); (case hr => first | (go_simp; done) | (go_simp; rfl)); intro gb281 hg w19 hbox hb; have n0_ := Aside0.mk (blk_below (g := gb280) (o := .cells #[.int .i64 a0_0, .int .i64 a0_1, .slice A0_2 l0_2.length c0_2, .int .i64 a0_3] 26 (0, 0)) (by (with_reducible repeat (first | refine blk_drewN ?_ _ | refine blk_drew ?_ | refine blk_alloc ?_ _)); exact BK280.out) hb); have n1_ := Aside0.mk (below_step (by repeat (first | (with_reducible first | exact HB.out | apply below_alloc | apply pw_below_drewN | apply below_drew1 | refine below_set ?_ GE280.out) | exact HB.out)) hb); have n2_ := Aside0.mk (hbox); have n3_ := Aside0.mk ((by rw [hg]; exact (below_size (by repeat (first | (with_reducible first | exact HB.out | apply below_alloc | apply pw_below_drewN | apply below_drew1 | refine below_set ?_ GE280.out) | exact HB.out))) : w.heap.size ≤ gb281)); have n4_ := Aside0.mk ((by rw [hg]; exact (below_size (by repeat (first | (with_reducible first | exact HB.out | apply below_alloc | apply pw_below_drewN | apply below_drew1 | refine below_set ?_ GE280.out) | exact HB.out))) : w.heap.size ≤ gb281)); have n5_ := Aside0.mk ((by rw [hg]; exact Nat.ne_of_lt (blk_lt (g := gb280) (o := .cells #[.int .i64 a0_0, .int .i64 a0_1, .slice A0_2 l0_2.length c0_2, .int .i64 a0_3] 26 (0, 0)) (by (with_reducible repeat (first | refine blk_drewN ?_ _ | refine blk_drew ?_ | refine blk_alloc ?_ _)); exact BK280.out)) : gb280 ≠ gb281)); have n6_ := Aside0.mk ((by rw [hg]; exact Nat.ne_of_gt (blk_lt (g := gb280) (o := .cells #[.int .i64 a0_0, .int .i64 a0_1, .slice A0_2 l0_2.length c0_2, .int .i64 a0_3] 26 (0, 0)) (by (with_reducible repeat (first | refine blk_drewN ?_ _ | refine blk_drew ?_ | refine blk_alloc ?_ _)); exact BK280.out)) : gb281 ≠ gb280)); clear BK280; clear HB; have BK280 := n0_; have HB := n1_; have BK281 := n2_; have GW281 := n3_; have GE281 := n4_; have NB280_281 := n5_; have NB281_280 := n6_; clear n0_ n1_ n2_ n3_ n4_ n5_ n6_; clear hb hbox hg; have hnb20 := NB280_281.out; have hnc20 := NB281_280.out; have hcz21_0 : w19.cell? ⟨gb280, 0, none⟩ = some (.int .i64 a0_0) := (blk_cell BK280.out 0).trans rfl; have hcz21_1 : w19.cell? ⟨gb280, 1, none⟩ = some (.int .i64 a0_1) := (blk_cell BK280.out 1).trans rfl; have hcz21_2 : w19.cell? ⟨gb280, 2, none⟩ = some (.slice A0_2 l0_2.length c0_2) := (blk_cell BK280.out 2).trans rfl; have hcz21_3 : w19.cell? ⟨gb280, 3, none⟩ = some (.int .i64 a0_3) := (blk_cell BK280.out 3).trans rfl; have hfz21_0 := blk_frozen BK280.out 0; have hfz21_1 := blk_frozen BK280.out 1; have hfz21_2 := blk_frozen BK280.out 2; have hfz21_3 := blk_frozen BK280.out 3) | ((with_reducible refine gate_callee (f := 30) rfl ?_); refine goesL_ (some 6) rfl rfl Try.func30 (by kernel_rfl) rfl #[.agg #[.int .i64 a0_0, .int .i64 a0_1, .slice A0_2 l0_2.length c0_2, .int .i64 a0_3]] rfl (by (try simp only [List.map_toArray, List.map_cons, List.map_nil]); first | done | rfl | (simp only [List.length_drop, List.length_take]; rfl)) ?_; (with_reducible refine (entries_Check.calls k a0_0 a0_1 _ _ l0_2 a0_3 t282 _ ?side1 ?side2 A2.out).mono ?_); (case side1 => repeat (first | exact (Kd.C_below HR0_2.out HB.out) | (with_reducible refine Kd.C_alloc ?_ _) | (with_reducible refine Kd.C_drewN ?_ _) | (with_reducible refine Kd.C_drew ?_))); (case side2 => exact HC0_2.out); rintro e w22 ⟨rfl, hb⟩; refine ⟨_, rfl, ?_⟩; have n0_ := Aside0.mk (blk_below (g := gb280) (o := .cells #[.int .i64 a0_0, .int .i64 a0_1, .slice A0_2 l0_2.length c0_2, .int .i64 a0_3] 26 (0, 0)) (by (with_reducible repeat (first | refine blk_drewN ?_ _ | refine blk_drew ?_ | refine blk_alloc ?_ _)); exact BK280.out) hb); have n1_ := Aside0.mk (blk_below (g := gb281) (o := .cells #[.int .i64 0, .int .i64 0] 23 (0, 0)) (by (with_reducible repeat (first | refine blk_drewN ?_ _ | refine blk_drew ?_ | refine blk_alloc ?_ _)); exact BK281.out) hb); have n2_ := Aside0.mk (below_step (by repeat (first | (with_reducible first | exact HB.out | apply below_alloc | apply pw_below_drewN | apply below_drew1 | refine below_set ?_ GE280.out | refine below_set ?_ GE281.out) | exact HB.out)) hb); clear BK280; clear BK281; clear HB; have BK280 := n0_; have BK281 := n1_; have HB := n2_; clear n0_ n1_ n2_; (try clear hb); (try clear hb2); (try clear hk); (try clear hi); have hcz23_0 : w22.cell? ⟨gb281, 0, none⟩ = some (.int .i64 0) := (blk_cell BK281.out 0).trans rfl; have hcz23_1 : w22.cell? ⟨gb281, 1, none⟩ = some (.int .i64 0) := (blk_cell BK281.out 1).trans rfl; have hfz23_0 := blk_frozen BK281.out 0; have hfz23_1 := blk_frozen BK281.out 1))
    refine bodyPost_ret (results_cell_row rfl _ _ gb281 23 #[.int .i64 0, .int .i64 0] (0, 0) _ rfl (by (with_reducible repeat (first | refine blk_drewN ?_ _ | refine blk_drew ?_ | refine blk_alloc ?_ _)); refine blk_put (cs := #[.int .i64 0, .int .i64 0]) ?_ 1 _ rfl; (with_reducible repeat (first | refine blk_drewN ?_ _ | refine blk_drew ?_ | refine blk_alloc ?_ _)); refine blk_put (cs := #[.int .i64 0, .int .i64 0]) ?_ 0 _ rfl; (with_reducible repeat (first | refine blk_drewN ?_ _ | refine blk_drew ?_ | refine blk_alloc ?_ _)); exact BK281.out) Try.underlying23 rfl (by kernel_rfl)) rfl ?_
    exact ⟨by first | rfl | (simp [errW_none, errW_some] <;> rfl) | (simp [*, errW_none, errW_some] <;> rfl), by repeat (first | (with_reducible first | exact HB.out | apply below_alloc | apply pw_below_drewN | apply below_drew1 | refine below_set ?_ GE280.out | refine below_set ?_ GE281.out) | exact HB.out)⟩

end Go.Proofs.Ytiebeiloooblpaa.E
end
section
-- written by myprint.py, a program of this session over the kit's print.py
namespace Go.Proofs.Ytiebeiloooblpaa.E
open Go.RowKit Go.Proofs.YtiebeiloooblpaaW.PrintWords Go.Proofs.YtiebeiloooblpaaW.PrintLast Go.Proofs.YtiebeiloooblpaaW.PrintMore
attribute [local go_sem] max2_int min2_int max_two min_two max_three min_three max_four min_four   -- for this text's walks alone
set_option linter.unusedVariables false
set_option linter.unusedSimpArgs false

attribute [local go_sem high] eqA23
/-! ### rialtolaw08_live: function 24 -/
def rialtolaw08_live.f (k : Nat)  : Option (Bool) := (some (([(⟨1, 1, (⟨#[]⟩ : ByteArray)⟩ : S33), (⟨1, 2, (⟨#[97]⟩ : ByteArray)⟩ : S33), (⟨2, 1, (⟨#[]⟩ : ByteArray)⟩ : S33)] : List (S33)) : List (S33))).bind fun y287 => ((entries_Accept.f k 0 0 y287 0 2 1 (([(⟨3, 1, (⟨#[]⟩ : ByteArray)⟩ : S33)] : List (S33))) 9).bind fun bt294 => ((entries_Advance.f k 0 0 y287 0 2 (([3, 3, 1] : List Int))).bind fun bt307 => (if bt294.2.2.2.2.2.2 = 0 then (if bt294.2.2.2.2.2.1 = true then (if bt294.2.2.2.2.1 = 3 then (if bt294.2.2.2.1 = 3 then (if (bt294.2.2.1.length : Int) = 3 then (if 2 < (bt294.2.2.1.length : Int) then (if ((rd_T33 bt294.2.2.1 2).f0) = 3 then (if bt307.2.2.2.2 = 0 then (if bt307.2.2.2.1 = 3 then ((entries_Last.f k 0 0 y287 0).bind fun bt316 => (some (bt316.1 == 3 && (bt316.2 == 2)))) else (some false)) else (some false)) else (some false)) else (none)) else (some false)) else (some false)) else (some false)) else (some false)) else (some false))))
theorem rialtolaw08_live.mono : ∀ k, LeO (rialtolaw08_live.f k ) (rialtolaw08_live.f (k + 1) ) := by
  intro  k
  unfold rialtolaw08_live.f
  repeat' first
      | (with_reducible exact entries_Accept.mono _ _ _ _ _ _ _ _ _)
      | (with_reducible exact entries_Advance.mono _ _ _ _ _ _ _)
      | (with_reducible exact entries_Last.mono _ _ _ _ _)
      | (with_reducible exact LeO.refl _)
      | (with_reducible exact LeO.none _)
      | (with_reducible refine LeO.ite ?_ ?_)
      | (with_reducible refine LeO.bind ?_ (fun _ => ?_))
      | exact entries_Accept.mono _ _ _ _ _ _ _ _ _
      | exact entries_Advance.mono _ _ _ _ _ _ _
      | exact entries_Last.mono _ _ _ _ _
      | exact LeO.none _
      | refine LeO.ite ?_ ?_
      | refine LeO.bind ?_ (fun _ => ?_)
set_option maxHeartbeats 8000000 in
set_option maxRecDepth 100000 in
theorem rialtolaw08_live.calls (k : Nat)  (r : Bool) (w : World) (h : rialtolaw08_live.f k  = some r) :
    Calls Try.prog 24 #[] w fun e w' => e = .returned (.bool r) ∧ Below w.heap.size w w' := by
  have hu33 := Try.underlying33
  have hu26 := Try.underlying26
  have hu23 := Try.underlying23
  have HB := Aside0.mk (Below.refl w.heap.size w)
  have H : ((some (([(⟨1, 1, (⟨#[]⟩ : ByteArray)⟩ : S33), (⟨1, 2, (⟨#[97]⟩ : ByteArray)⟩ : S33), (⟨2, 1, (⟨#[]⟩ : ByteArray)⟩ : S33)] : List (S33)) : List (S33))).bind fun y287 => ((entries_Accept.f k 0 0 y287 0 2 1 (([(⟨3, 1, (⟨#[]⟩ : ByteArray)⟩ : S33)] : List (S33))) 9).bind fun bt294 => ((entries_Advance.f k 0 0 y287 0 2 (([3, 3, 1] : List Int))).bind fun bt307 => (if bt294.2.2.2.2.2.2 = 0 then (if bt294.2.2.2.2.2.1 = true then (if bt294.2.2.2.2.1 = 3 then (if bt294.2.2.2.1 = 3 then (if (bt294.2.2.1.length : Int) = 3 then (if 2 < (bt294.2.2.1.length : Int) then (if ((rd_T33 bt294.2.2.1 2).f0) = 3 then (if bt307.2.2.2.2 = 0 then (if bt307.2.2.2.1 = 3 then ((entries_Last.f k 0 0 y287 0).bind fun bt316 => (some (bt316.1 == 3 && (bt316.2 == 2)))) else (some false)) else (some false)) else (some false)) else (none)) else (some false)) else (some false)) else (some false)) else (some false)) else (some false))))) = some r := h
  clear h
  obtain ⟨y287, hy287⟩ : ∃ y_ : List (S33), y_ = (([(⟨1, 1, (⟨#[]⟩ : ByteArray)⟩ : S33), (⟨1, 2, (⟨#[97]⟩ : ByteArray)⟩ : S33), (⟨2, 1, (⟨#[]⟩ : ByteArray)⟩ : S33)] : List (S33))) := ⟨_, rfl⟩
  replace H : ((entries_Accept.f k 0 0 y287 0 2 1 (([(⟨3, 1, (⟨#[]⟩ : ByteArray)⟩ : S33)] : List (S33))) 9).bind fun bt294 => ((entries_Advance.f k 0 0 y287 0 2 (([3, 3, 1] : List Int))).bind fun bt307 => (if bt294.2.2.2.2.2.2 = 0 then (if bt294.2.2.2.2.2.1 = true then (if bt294.2.2.2.2.1 = 3 then (if bt294.2.2.2.1 = 3 then (if (bt294.2.2.1.length : Int) = 3 then (if 2 < (bt294.2.2.1.length : Int) then (if ((rd_T33 bt294.2.2.1 2).f0) = 3 then (if bt307.2.2.2.2 = 0 then (if bt307.2.2.2.1 = 3 then ((entries_Last.f k 0 0 y287 0).bind fun bt316 => (some (bt316.1 == 3 && (bt316.2 == 2)))) else (some false)) else (some false)) else (some false)) else (none)) else (some false)) else (some false)) else (some false)) else (some false)) else (some false)))) = some r := by first | (rw [hy287]; with_reducible exact H) | (have H2_ := (Option.bind_some _ _).symm.trans H; rw [hy287]; with_reducible exact H2_) | (have H2_ := (Option.bind_some _ _).symm.trans H; with_reducible exact H2_) | with_reducible exact H | (rw [hy287]; exact H) | exact H
  have Ny287 := Aside0.mk hy287
  clear hy287
  obtain ⟨y291, hy291⟩ : ∃ y_ : List (S33), y_ = (([(⟨3, 1, (⟨#[]⟩ : ByteArray)⟩ : S33)] : List (S33))) := ⟨_, rfl⟩
  replace H : ((entries_Accept.f k 0 0 y287 0 2 1 y291 9).bind fun bt294 => ((entries_Advance.f k 0 0 y287 0 2 (([3, 3, 1] : List Int))).bind fun bt307 => (if bt294.2.2.2.2.2.2 = 0 then (if bt294.2.2.2.2.2.1 = true then (if bt294.2.2.2.2.1 = 3 then (if bt294.2.2.2.1 = 3 then (if (bt294.2.2.1.length : Int) = 3 then (if 2 < (bt294.2.2.1.length : Int) then (if ((rd_T33 bt294.2.2.1 2).f0) = 3 then (if bt307.2.2.2.2 = 0 then (if bt307.2.2.2.1 = 3 then ((entries_Last.f k 0 0 y287 0).bind fun bt316 => (some (bt316.1 == 3 && (bt316.2 == 2)))) else (some false)) else (some false)) else (some false)) else (none)) else (some false)) else (some false)) else (some false)) else (some false)) else (some false)))) = some r := by first | (rw [hy291]; with_reducible exact H) | (have H2_ := (Option.bind_some _ _).symm.trans H; rw [hy291]; with_reducible exact H2_) | (have H2_ := (Option.bind_some _ _).symm.trans H; with_reducible exact H2_) | with_reducible exact H | (rw [hy291]; exact H) | exact H
  have Ny291 := Aside0.mk hy291
  clear hy291
  replace H := Option.bind_eq_some_iff.mp H
  obtain ⟨⟨t294, t295, t296, t299, t300, t301, t302⟩, A10, H⟩ := H
  replace H : ((entries_Advance.f k 0 0 y287 0 2 (([3, 3, 1] : List Int))).bind fun bt307 => (if t302 = 0 then (if t301 = true then (if t300 = 3 then (if t299 = 3 then (if (t296.length : Int) = 3 then (if 2 < (t296.length : Int) then (if ((rd_T33 t296 2).f0) = 3 then (if bt307.2.2.2.2 = 0 then (if bt307.2.2.2.1 = 3 then ((entries_Last.f k 0 0 y287 0).bind fun bt316 => (some (bt316.1 == 3 && (bt316.2 == 2)))) else (some false)) else (some false)) else (some false)) else (none)) else (some false)) else (some false)) else (some false)) else (some false)) else (some false))) = some r := H
  have A1 := Aside0.mk A10
  clear A10
  obtain ⟨y304, hy304⟩ : ∃ y_ : List Int, y_ = (([3, 3, 1] : List Int)) := ⟨_, rfl⟩
  replace H : ((entries_Advance.f k 0 0 y287 0 2 y304).bind fun bt307 => (if t302 = 0 then (if t301 = true then (if t300 = 3 then (if t299 = 3 then (if (t296.length : Int) = 3 then (if 2 < (t296.length : Int) then (if ((rd_T33 t296 2).f0) = 3 then (if bt307.2.2.2.2 = 0 then (if bt307.2.2.2.1 = 3 then ((entries_Last.f k 0 0 y287 0).bind fun bt316 => (some (bt316.1 == 3 && (bt316.2 == 2)))) else (some false)) else (some false)) else (some false)) else (none)) else (some false)) else (some false)) else (some false)) else (some false)) else (some false))) = some r := by first | (rw [hy304]; with_reducible exact H) | (have H2_ := (Option.bind_some _ _).symm.trans H; rw [hy304]; with_reducible exact H2_) | (have H2_ := (Option.bind_some _ _).symm.trans H; with_reducible exact H2_) | with_reducible exact H | (rw [hy304]; exact H) | exact H
  have Ny304 := Aside0.mk hy304
  clear hy304
  replace H := Option.bind_eq_some_iff.mp H
  obtain ⟨⟨t307, t308, t309, t312, t313⟩, A20, H⟩ := H
  replace H : (if t302 = 0 then (if t301 = true then (if t300 = 3 then (if t299 = 3 then (if (t296.length : Int) = 3 then (if 2 < (t296.length : Int) then (if ((rd_T33 t296 2).f0) = 3 then (if t313 = 0 then (if t312 = 3 then ((entries_Last.f k 0 0 y287 0).bind fun bt316 => (some (bt316.1 == 3 && (bt316.2 == 2)))) else (some false)) else (some false)) else (some false)) else (none)) else (some false)) else (some false)) else (some false)) else (some false)) else (some false)) = some r := H
  have A2 := Aside0.mk A20
  clear A20
  by_cases c3 : t302 = 0
  focus
    rw [if_pos c3] at H
    have c3b0 : (t302 == 0) = true := beq_iff_eq.mpr c3
    have c3b1 : (t302 != 0) = false := bne_eq_false_iff_eq.mpr c3
    clear c3
    by_cases c4 : t301 = true
    focus
      subst c4
      have H1 : (if t300 = 3 then (if t299 = 3 then (if (t296.length : Int) = 3 then (if 2 < (t296.length : Int) then (if ((rd_T33 t296 2).f0) = 3 then (if t313 = 0 then (if t312 = 3 then ((entries_Last.f k 0 0 y287 0).bind fun bt316 => (some (bt316.1 == 3 && (bt316.2 == 2)))) else (some false)) else (some false)) else (some false)) else (none)) else (some false)) else (some false)) else (some false)) = some r := by rw [if_pos rfl] at H; exact H
      clear H
      have H := H1
      clear H1
      by_cases c5 : t300 = 3
      focus
        rw [if_pos c5] at H
        have c5b0 : (t300 == 3) = true := beq_iff_eq.mpr c5
        have c5b1 : (t300 != 3) = false := bne_eq_false_iff_eq.mpr c5
        clear c5
        by_cases c6 : t299 = 3
        focus
          rw [if_pos c6] at H
          have c6b0 : (t299 == 3) = true := beq_iff_eq.mpr c6
          have c6b1 : (t299 != 3) = false := bne_eq_false_iff_eq.mpr c6
          clear c6
          by_cases c7 : (t296.length : Int) = 3
          focus
            rw [if_pos c7] at H
            have c7b0 : ((t296.length : Int) == 3) = true := beq_iff_eq.mpr c7
            have c7b1 : ((t296.length : Int) != 3) = false := bne_eq_false_iff_eq.mpr c7
            clear c7
            by_cases c8 : 2 < (t296.length : Int)
            focus
              rw [if_pos c8] at H
              have c8b0 : decide (2 < (t296.length : Int)) = true := decide_eq_true c8
              have c8b1 : decide (2 < t296.length) = true := decide_eq_true (by omega)
              clear c8
              by_cases c9 : ((rd_T33 t296 2).f0) = 3
              focus
                rw [if_pos c9] at H
                have c9b0 : (((rd_T33 t296 2).f0) == 3) = true := beq_iff_eq.mpr c9
                have c9b1 : (((rd_T33 t296 2).f0) != 3) = false := bne_eq_false_iff_eq.mpr c9
                clear c9
                by_cases c10 : t313 = 0
                focus
                  rw [if_pos c10] at H
                  have c10b0 : (t313 == 0) = true := beq_iff_eq.mpr c10
                  have c10b1 : (t313 != 0) = false := bne_eq_false_iff_eq.mpr c10
                  clear c10
                  by_cases c11 : t312 = 3
                  focus
                    rw [if_pos c11] at H
                    have c11b0 : (t312 == 3) = true := beq_iff_eq.mpr c11
                    have c11b1 : (t312 != 3) = false := bne_eq_false_iff_eq.mpr c11
                    clear c11
                    replace H := Option.bind_eq_some_iff.mp H
                    obtain ⟨⟨t316, t317⟩, A120, H⟩ := H
                    replace H : (some (t316 == 3 && (t317 == 2))) = some r := H
                    have A12 := Aside0.mk A120
                    clear A120
                    obtain rfl := Option.some.inj H
                  rotate_left 1
                  focus
                    rw [if_neg c11] at H
                    have c11b0 : (t312 == 3) = false := beq_eq_false_iff_ne.mpr c11
                    have c11b1 : (t312 != 3) = true := bne_iff_ne.mpr c11
                    obtain rfl := Option.some.inj H
                  rotate_left 1
                rotate_left 2
                focus
                  rw [if_neg c10] at H
                  have c10b0 : (t313 == 0) = false := beq_eq_false_iff_ne.mpr c10
                  have c10b1 : (t313 != 0) = true := bne_iff_ne.mpr c10
                  obtain rfl := Option.some.inj H
                rotate_left 1
              rotate_left 3
              focus
                rw [if_neg c9] at H
                have c9b0 : (((rd_T33 t296 2).f0) == 3) = false := beq_eq_false_iff_ne.mpr c9
                have c9b1 : (((rd_T33 t296 2).f0) != 3) = true := bne_iff_ne.mpr c9
                obtain rfl := Option.some.inj H
              rotate_left 1
            rotate_left 4
            focus
              rw [if_neg c8] at H
            rotate_left 1
          rotate_left 5
          focus
            rw [if_neg c7] at H
            have c7b0 : ((t296.length : Int) == 3) = false := beq_eq_false_iff_ne.mpr c7
            have c7b1 : ((t296.length : Int) != 3) = true := bne_iff_ne.mpr c7
            obtain rfl := Option.some.inj H
          rotate_left 1
        rotate_left 6
        focus
          rw [if_neg c6] at H
          have c6b0 : (t299 == 3) = false := beq_eq_false_iff_ne.mpr c6
          have c6b1 : (t299 != 3) = true := bne_iff_ne.mpr c6
          obtain rfl := Option.some.inj H
        rotate_left 1
      rotate_left 7
      focus
        rw [if_neg c5] at H
        have c5b0 : (t300 == 3) = false := beq_eq_false_iff_ne.mpr c5
        have c5b1 : (t300 != 3) = true := bne_iff_ne.mpr c5
        obtain rfl := Option.some.inj H
      rotate_left 1
    rotate_left 8
    focus
      replace c4 := Bool.eq_false_iff.mpr c4
      subst c4
      have H1 : (some false) = some r := by rw [if_neg (show ¬ (false = true) by decide)] at H; exact H
      clear H
      have H := H1
      clear H1
      obtain rfl := Option.some.inj H
    rotate_left 1
  rotate_left 9
  focus
    rw [if_neg c3] at H
    have c3b0 : (t302 == 0) = false := beq_eq_false_iff_ne.mpr c3
    have c3b1 : (t302 != 0) = true := bne_iff_ne.mpr c3
    obtain rfl := Option.some.inj H
  rotate_left 1
  iterate 4
    focus
      go_enter Try.func24, Try.ntmps24
      go_wp2_with (first | ((with_reducible refine gate_dst (N := 11) rfl ?_); (try (refine gate_guard (by rfl) ?_; dsimp only)); refine Kd.R_lit k33 _ 33 ?hg (N := 11) ?hd (xs := ([(⟨1, 1, (⟨#[]⟩ : ByteArray)⟩ : S33), (⟨1, 2, (⟨#[97]⟩ : ByteArray)⟩ : S33), (⟨2, 1, (⟨#[]⟩ : ByteArray)⟩ : S33)] : List (S33))) (inner := [.int .i64 1, .int .i64 1, .string (⟨#[]⟩ : ByteArray), .int .i64 1, .int .i64 2, .string (⟨#[97]⟩ : ByteArray), .int .i64 2, .int .i64 1, .string (⟨#[]⟩ : ByteArray)]) (ok := fun _ => True) (okp := fun _ => True) ?hr ?hp (fun _ hk => hk) trivial (Below.refl _ _) (Nat.le_refl _) (by simp) ?_; (case hd => rfl); (case hg => rfl); (case hr => first | (go_simp; done) | (go_simp; rfl)); (case hp => exact (Reps.c3 (show Kd.M k33 _ _ _ (⟨1, 1, (⟨#[]⟩ : ByteArray)⟩ : S33) [.int .i64 1, .int .i64 1, .string (⟨#[]⟩ : ByteArray)] from (k33_mkM _ _ _ (⟨1, 1, (⟨#[]⟩ : ByteArray)⟩ : S33) )) (Reps.c3 (show Kd.M k33 _ _ _ (⟨1, 2, (⟨#[97]⟩ : ByteArray)⟩ : S33) [.int .i64 1, .int .i64 2, .string (⟨#[97]⟩ : ByteArray)] from (k33_mkM _ _ _ (⟨1, 2, (⟨#[97]⟩ : ByteArray)⟩ : S33) )) (Reps.c3 (show Kd.M k33 _ _ _ (⟨2, 1, (⟨#[]⟩ : ByteArray)⟩ : S33) [.int .i64 2, .int .i64 1, .string (⟨#[]⟩ : ByteArray)] from (k33_mkM _ _ _ (⟨2, 1, (⟨#[]⟩ : ByteArray)⟩ : S33) )) (Reps.none _ _))))); intro v288 wx11i0 ho14 hb hg_ hnew_; clear hg_ hnew_; (first | rw [← Ny287.out] at ho14 | (simp only [Int.reduceToNat] at ho14; rw [← Ny287.out] at ho14)); have n0_ := Aside0.mk (Kd.R_lower ho14 (below_size (by repeat (first | (with_reducible first | exact HB.out | apply below_alloc | apply pw_below_drewN | apply below_drew1) | exact HB.out)))); have n1_ := Aside0.mk (below_step (by repeat (first | (with_reducible first | exact HB.out | apply below_alloc | apply pw_below_drewN | apply below_drew1) | exact HB.out)) hb); clear HB; have HO289 := n0_; have HB := n1_; clear n0_ n1_; clear hb ho14; obtain ⟨Aox11i0, cox11i0, eox11i0⟩ := Kd.R_slice HO289.out; subst eox11i0) | ((with_reducible refine gate_dst (N := 11) rfl ?_); (try (refine gate_guard (by rfl) ?_; dsimp only)); refine Kd.R_lit k33 _ 33 ?hg (N := 11) ?hd (xs := ([(⟨1, 1, (⟨#[]⟩ : ByteArray)⟩ : S33), (⟨1, 2, (⟨#[97]⟩ : ByteArray)⟩ : S33), (⟨2, 1, (⟨#[]⟩ : ByteArray)⟩ : S33)] : List (S33))) (inner := [.int .i64 1, .int .i64 1, .string (⟨#[]⟩ : ByteArray), .int .i64 1, .int .i64 2, .string (⟨#[97]⟩ : ByteArray), .int .i64 2, .int .i64 1, .string (⟨#[]⟩ : ByteArray)]) (ok := fun _ => True) (okp := fun _ => True) ?hr ?hp (fun _ hk => hk) trivial (Below.refl _ _) (Nat.le_refl _) (by simp) ?_; (case hd => rfl); (case hg => rfl); (case hr => first | (go_simp; done) | (go_simp; rfl)); (case hp => exact (Reps.c3 (show Kd.M k33 _ _ _ (⟨1, 1, (⟨#[]⟩ : ByteArray)⟩ : S33) [.int .i64 1, .int .i64 1, .string (⟨#[]⟩ : ByteArray)] from (k33_mkM _ _ _ (⟨1, 1, (⟨#[]⟩ : ByteArray)⟩ : S33) )) (Reps.c3 (show Kd.M k33 _ _ _ (⟨1, 2, (⟨#[97]⟩ : ByteArray)⟩ : S33) [.int .i64 1, .int .i64 2, .string (⟨#[97]⟩ : ByteArray)] from (k33_mkM _ _ _ (⟨1, 2, (⟨#[97]⟩ : ByteArray)⟩ : S33) )) (Reps.c3 (show Kd.M k33 _ _ _ (⟨2, 1, (⟨#[]⟩ : ByteArray)⟩ : S33) [.int .i64 2, .int .i64 1, .string (⟨#[]⟩ : ByteArray)] from (k33_mkM _ _ _ (⟨2, 1, (⟨#[]⟩ : ByteArray)⟩ : S33) )) (Reps.none _ _))))); intro v288 wx11i0 ho40 hb hg_ hnew_; clear hg_ hnew_; (first | rw [← Ny287.out] at ho40 | (simp only [Int.reduceToNat] at ho40; rw [← Ny287.out] at ho40)); have n0_ := Aside0.mk (Kd.R_lower ho40 (below_size (by repeat (first | (with_reducible first | exact HB.out | apply below_alloc | apply pw_below_drewN | apply below_drew1) | exact HB.out)))); have n1_ := Aside0.mk (below_step (by repeat (first | (with_reducible first | exact HB.out | apply below_alloc | apply pw_below_drewN | apply below_drew1) | exact HB.out)) hb); clear HB; have HO289 := n0_; have HB := n1_; clear n0_ n1_; clear hb ho40; obtain ⟨Aox11i0, cox11i0, eox11i0⟩ := Kd.R_slice HO289.out; subst eox11i0) | ((with_reducible refine gate_dst (N := 11) rfl ?_); (try (refine gate_guard (by rfl) ?_; dsimp only)); refine Kd.R_lit k33 _ 33 ?hg (N := 11) ?hd (xs := ([(⟨1, 1, (⟨#[]⟩ : ByteArray)⟩ : S33), (⟨1, 2, (⟨#[97]⟩ : ByteArray)⟩ : S33), (⟨2, 1, (⟨#[]⟩ : ByteArray)⟩ : S33)] : List (S33))) (inner := [.int .i64 1, .int .i64 1, .string (⟨#[]⟩ : ByteArray), .int .i64 1, .int .i64 2, .string (⟨#[97]⟩ : ByteArray), .int .i64 2, .int .i64 1, .string (⟨#[]⟩ : ByteArray)]) (ok := fun _ => True) (okp := fun _ => True) ?hr ?hp (fun _ hk => hk) trivial (Below.refl _ _) (Nat.le_refl _) (by simp) ?_; (case hd => rfl); (case hg => rfl); (case hr => first | (go_simp; done) | (go_simp; rfl)); (case hp => exact (Reps.c3 (show Kd.M k33 _ _ _ (⟨1, 1, (⟨#[]⟩ : ByteArray)⟩ : S33) [.int .i64 1, .int .i64 1, .string (⟨#[]⟩ : ByteArray)] from (k33_mkM _ _ _ (⟨1, 1, (⟨#[]⟩ : ByteArray)⟩ : S33) )) (Reps.c3 (show Kd.M k33 _ _ _ (⟨1, 2, (⟨#[97]⟩ : ByteArray)⟩ : S33) [.int .i64 1, .int .i64 2, .string (⟨#[97]⟩ : ByteArray)] from (k33_mkM _ _ _ (⟨1, 2, (⟨#[97]⟩ : ByteArray)⟩ : S33) )) (Reps.c3 (show Kd.M k33 _ _ _ (⟨2, 1, (⟨#[]⟩ : ByteArray)⟩ : S33) [.int .i64 2, .int .i64 1, .string (⟨#[]⟩ : ByteArray)] from (k33_mkM _ _ _ (⟨2, 1, (⟨#[]⟩ : ByteArray)⟩ : S33) )) (Reps.none _ _))))); intro v288 wx11i0 ho64 hb hg_ hnew_; clear hg_ hnew_; (first | rw [← Ny287.out] at ho64 | (simp only [Int.reduceToNat] at ho64; rw [← Ny287.out] at ho64)); have n0_ := Aside0.mk (Kd.R_lower ho64 (below_size (by repeat (first | (with_reducible first | exact HB.out | apply below_alloc | apply pw_below_drewN | apply below_drew1) | exact HB.out)))); have n1_ := Aside0.mk (below_step (by repeat (first | (with_reducible first | exact HB.out | apply below_alloc | apply pw_below_drewN | apply below_drew1) | exact HB.out)) hb); clear HB; have HO289 := n0_; have HB := n1_; clear n0_ n1_; clear hb ho64; obtain ⟨Aox11i0, cox11i0, eox11i0⟩ := Kd.R_slice HO289.out; subst eox11i0) | ((with_reducible refine gate_dst (N := 11) rfl ?_); (try (refine gate_guard (by rfl) ?_; dsimp only)); refine Kd.R_lit k33 _ 33 ?hg (N := 11) ?hd (xs := ([(⟨1, 1, (⟨#[]⟩ : ByteArray)⟩ : S33), (⟨1, 2, (⟨#[97]⟩ : ByteArray)⟩ : S33), (⟨2, 1, (⟨#[]⟩ : ByteArray)⟩ : S33)] : List (S33))) (inner := [.int .i64 1, .int .i64 1, .string (⟨#[]⟩ : ByteArray), .int .i64 1, .int .i64 2, .string (⟨#[97]⟩ : ByteArray), .int .i64 2, .int .i64 1, .string (⟨#[]⟩ : ByteArray)]) (ok := fun _ => True) (okp := fun _ => True) ?hr ?hp (fun _ hk => hk) trivial (Below.refl _ _) (Nat.le_refl _) (by simp) ?_; (case hd => rfl); (case hg => rfl); (case hr => first | (go_simp; done) | (go_simp; rfl)); (case hp => exact (Reps.c3 (show Kd.M k33 _ _ _ (⟨1, 1, (⟨#[]⟩ : ByteArray)⟩ : S33) [.int .i64 1, .int .i64 1, .string (⟨#[]⟩ : ByteArray)] from (k33_mkM _ _ _ (⟨1, 1, (⟨#[]⟩ : ByteArray)⟩ : S33) )) (Reps.c3 (show Kd.M k33 _ _ _ (⟨1, 2, (⟨#[97]⟩ : ByteArray)⟩ : S33) [.int .i64 1, .int .i64 2, .string (⟨#[97]⟩ : ByteArray)] from (k33_mkM _ _ _ (⟨1, 2, (⟨#[97]⟩ : ByteArray)⟩ : S33) )) (Reps.c3 (show Kd.M k33 _ _ _ (⟨2, 1, (⟨#[]⟩ : ByteArray)⟩ : S33) [.int .i64 2, .int .i64 1, .string (⟨#[]⟩ : ByteArray)] from (k33_mkM _ _ _ (⟨2, 1, (⟨#[]⟩ : ByteArray)⟩ : S33) )) (Reps.none _ _))))); intro v288 wx11i0 ho88 hb hg_ hnew_; clear hg_ hnew_; (first | rw [← Ny287.out] at ho88 | (simp only [Int.reduceToNat] at ho88; rw [← Ny287.out] at ho88)); have n0_ := Aside0.mk (Kd.R_lower ho88 (below_size (by repeat (first | (with_reducible first | exact HB.out | apply below_alloc | apply pw_below_drewN | apply below_drew1) | exact HB.out)))); have n1_ := Aside0.mk (below_step (by repeat (first | (with_reducible first | exact HB.out | apply below_alloc | apply pw_below_drewN | apply below_drew1) | exact HB.out)) hb); clear HB; have HO289 := n0_; have HB := n1_; clear n0_ n1_; clear hb ho88; obtain ⟨Aox11i0, cox11i0, eox11i0⟩ := Kd.R_slice HO289.out; subst eox11i0) | ((with_reducible refine gate_dst (N := 1) rfl ?_); (try (refine gate_guard (by rfl) ?_; dsimp only)); refine box_event ?hg (N := 1) ?hd (cs := #[.int .i64 0, .int .i64 0, .slice none 0 0, .int .i64 0]) (t := 26) ?hr ?_; (case hd => rfl); (case hg => rfl); (case hr => first | (go_simp; done) | (go_simp; rfl)); intro gb290 hg wx1i0 hbox hb; have n0_ := Aside0.mk (Kd.R_below (by (with_reducible repeat (first | apply Kd.R_alloc | apply Kd.R_drewN | apply Kd.R_drew)); exact HO289.out) hb); have n1_ := Aside0.mk (below_step (by repeat (first | (with_reducible first | exact HB.out | apply below_alloc | apply pw_below_drewN | apply below_drew1) | exact HB.out)) hb); have n2_ := Aside0.mk (hbox); have n3_ := Aside0.mk ((by rw [hg]; exact (below_size (by repeat (first | (with_reducible first | exact HB.out | apply below_alloc | apply pw_below_drewN | apply below_drew1) | exact HB.out))) : w.heap.size ≤ gb290)); have n4_ := Aside0.mk ((by rw [hg]; exact (below_size (by repeat (first | (with_reducible first | exact HB.out | apply below_alloc | apply pw_below_drewN | apply below_drew1) | exact HB.out))) : w.heap.size ≤ gb290)); clear HO289; clear HB; have HO289 := n0_; have HB := n1_; have BK290 := n2_; have GW290 := n3_; have GE290 := n4_; clear n0_ n1_ n2_ n3_ n4_; clear hb hbox hg; have hczx1b290_0 : wx1i0.cell? ⟨gb290, 0, none⟩ = some (.int .i64 0) := (blk_cell BK290.out 0).trans rfl; have hczx1b290_1 : wx1i0.cell? ⟨gb290, 1, none⟩ = some (.int .i64 0) := (blk_cell BK290.out 1).trans rfl; have hczx1b290_2 : wx1i0.cell? ⟨gb290, 2, none⟩ = some (.slice none 0 0) := (blk_cell BK290.out 2).trans rfl; have hczx1b290_3 : wx1i0.cell? ⟨gb290, 3, none⟩ = some (.int .i64 0) := (blk_cell BK290.out 3).trans rfl; have hfzx1b290_0 := blk_frozen BK290.out 0; have hfzx1b290_1 := blk_frozen BK290.out 1; have hfzx1b290_2 := blk_frozen BK290.out 2; have hfzx1b290_3 := blk_frozen BK290.out 3) | ((with_reducible refine gate_dst (N := 17) rfl ?_); (try (refine gate_guard (by rfl) ?_; dsimp only)); refine Kd.R_lit k33 _ 33 ?hg (N := 17) ?hd (xs := ([(⟨3, 1, (⟨#[]⟩ : ByteArray)⟩ : S33)] : List (S33))) (inner := [.int .i64 3, .int .i64 1, .string (⟨#[]⟩ : ByteArray)]) (ok := fun _ => True) (okp := fun _ => True) ?hr ?hp (fun _ hk => hk) trivial (Below.refl _ _) (Nat.le_refl _) (by simp) ?_; (case hd => rfl); (case hg => rfl); (case hr => first | (go_simp; done) | (go_simp; rfl)); (case hp => exact (Reps.c3 (show Kd.M k33 _ _ _ (⟨3, 1, (⟨#[]⟩ : ByteArray)⟩ : S33) [.int .i64 3, .int .i64 1, .string (⟨#[]⟩ : ByteArray)] from (k33_mkM _ _ _ (⟨3, 1, (⟨#[]⟩ : ByteArray)⟩ : S33) )) (Reps.none _ _))); intro v292 wx17i0 ho19 hb hg_ hnew_; clear hg_ hnew_; (first | rw [← Ny291.out] at ho19 | (simp only [Int.reduceToNat] at ho19; rw [← Ny291.out] at ho19)); have n0_ := Aside0.mk (Kd.R_elder' (by (with_reducible repeat (first | apply Kd.R_alloc | apply Kd.R_drewN | apply Kd.R_drew)); exact (Kd.R_mono (Kd.R_far (p := ⟨gb290, 3, none⟩) (Kd.R_far (p := ⟨gb290, 2, none⟩) (Kd.R_far (p := ⟨gb290, 1, none⟩) (Kd.R_far (p := ⟨gb290, 0, none⟩) (Kd.R_types HO289.out BK290.out (by decide)) (fun _ hk => hk.2) (.int .i64 0)) (fun _ hk => hk.2) (.int .i64 0)) (fun _ hk => hk.2) (.slice Aox11i0 y287.length cox11i0)) (fun _ hk => hk.2) (.int .i64 0)) (fun _ h_ => h_.1))) (Kd.R_base ho19) hb); have n1_ := Aside0.mk (Kd.R_lower (Kd.R_new' ho19 (Kd.R_lt (by (with_reducible repeat (first | apply Kd.R_alloc | apply Kd.R_drewN | apply Kd.R_drew)); exact (Kd.R_mono (Kd.R_far (p := ⟨gb290, 3, none⟩) (Kd.R_far (p := ⟨gb290, 2, none⟩) (Kd.R_far (p := ⟨gb290, 1, none⟩) (Kd.R_far (p := ⟨gb290, 0, none⟩) (Kd.R_types HO289.out BK290.out (by decide)) (fun _ hk => hk.2) (.int .i64 0)) (fun _ hk => hk.2) (.int .i64 0)) (fun _ hk => hk.2) (.slice Aox11i0 y287.length cox11i0)) (fun _ hk => hk.2) (.int .i64 0)) (fun _ h_ => h_.1))))) (below_size (by repeat (first | (with_reducible first | exact HB.out | apply below_alloc | apply pw_below_drewN | apply below_drew1 | refine below_set ?_ GE290.out) | exact HB.out)))); have n2_ := Aside0.mk (blk_below (g := gb290) (o := .cells #[.int .i64 0, .int .i64 0, .slice Aox11i0 y287.length cox11i0, .int .i64 0] 26 (0, 0)) (by (with_reducible repeat (first | refine blk_drewN ?_ _ | refine blk_drew ?_ | refine blk_alloc ?_ _)); refine blk_put (cs := #[.int .i64 0, .int .i64 0, .slice Aox11i0 y287.length cox11i0, .int .i64 0]) ?_ 3 _ rfl; (with_reducible repeat (first | refine blk_drewN ?_ _ | refine blk_drew ?_ | refine blk_alloc ?_ _)); refine blk_put (cs := #[.int .i64 0, .int .i64 0, .slice none 0 0, .int .i64 0]) ?_ 2 _ rfl; (with_reducible repeat (first | refine blk_drewN ?_ _ | refine blk_drew ?_ | refine blk_alloc ?_ _)); refine blk_put (cs := #[.int .i64 0, .int .i64 0, .slice none 0 0, .int .i64 0]) ?_ 1 _ rfl; (with_reducible repeat (first | refine blk_drewN ?_ _ | refine blk_drew ?_ | refine blk_alloc ?_ _)); refine blk_put (cs := #[.int .i64 0, .int .i64 0, .slice none 0 0, .int .i64 0]) ?_ 0 _ rfl; (with_reducible repeat (first | refine blk_drewN ?_ _ | refine blk_drew ?_ | refine blk_alloc ?_ _)); exact BK290.out) hb); have n3_ := Aside0.mk (below_step (by repeat (first | (with_reducible first | exact HB.out | apply below_alloc | apply pw_below_drewN | apply below_drew1 | refine below_set ?_ GE290.out) | exact HB.out)) hb); clear HO289; clear BK290; clear HB; have HO289 := n0_; have HO293 := n1_; have BK290 := n2_; have HB := n3_; clear n0_ n1_ n2_ n3_; clear hb ho19; obtain ⟨Aox17i0, cox17i0, eox17i0⟩ := Kd.R_slice HO293.out; subst eox17i0) | ((with_reducible refine gate_dst (N := 17) rfl ?_); (try (refine gate_guard (by rfl) ?_; dsimp only)); refine Kd.R_lit k33 _ 33 ?hg (N := 17) ?hd (xs := ([(⟨3, 1, (⟨#[]⟩ : ByteArray)⟩ : S33)] : List (S33))) (inner := [.int .i64 3, .int .i64 1, .string (⟨#[]⟩ : ByteArray)]) (ok := fun _ => True) (okp := fun _ => True) ?hr ?hp (fun _ hk => hk) trivial (Below.refl _ _) (Nat.le_refl _) (by simp) ?_; (case hd => rfl); (case hg => rfl); (case hr => first | (go_simp; done) | (go_simp; rfl)); (case hp => exact (Reps.c3 (show Kd.M k33 _ _ _ (⟨3, 1, (⟨#[]⟩ : ByteArray)⟩ : S33) [.int .i64 3, .int .i64 1, .string (⟨#[]⟩ : ByteArray)] from (k33_mkM _ _ _ (⟨3, 1, (⟨#[]⟩ : ByteArray)⟩ : S33) )) (Reps.none _ _))); intro v292 wx17i0 ho45 hb hg_ hnew_; clear hg_ hnew_; (first | rw [← Ny291.out] at ho45 | (simp only [Int.reduceToNat] at ho45; rw [← Ny291.out] at ho45)); have n0_ := Aside0.mk (Kd.R_elder' (by (with_reducible repeat (first | apply Kd.R_alloc | apply Kd.R_drewN | apply Kd.R_drew)); exact (Kd.R_mono (Kd.R_far (p := ⟨gb290, 3, none⟩) (Kd.R_far (p := ⟨gb290, 2, none⟩) (Kd.R_far (p := ⟨gb290, 1, none⟩) (Kd.R_far (p := ⟨gb290, 0, none⟩) (Kd.R_types HO289.out BK290.out (by decide)) (fun _ hk => hk.2) (.int .i64 0)) (fun _ hk => hk.2) (.int .i64 0)) (fun _ hk => hk.2) (.slice Aox11i0 y287.length cox11i0)) (fun _ hk => hk.2) (.int .i64 0)) (fun _ h_ => h_.1))) (Kd.R_base ho45) hb); have n1_ := Aside0.mk (Kd.R_lower (Kd.R_new' ho45 (Kd.R_lt (by (with_reducible repeat (first | apply Kd.R_alloc | apply Kd.R_drewN | apply Kd.R_drew)); exact (Kd.R_mono (Kd.R_far (p := ⟨gb290, 3, none⟩) (Kd.R_far (p := ⟨gb290, 2, none⟩) (Kd.R_far (p := ⟨gb290, 1, none⟩) (Kd.R_far (p := ⟨gb290, 0, none⟩) (Kd.R_types HO289.out BK290.out (by decide)) (fun _ hk => hk.2) (.int .i64 0)) (fun _ hk => hk.2) (.int .i64 0)) (fun _ hk => hk.2) (.slice Aox11i0 y287.length cox11i0)) (fun _ hk => hk.2) (.int .i64 0)) (fun _ h_ => h_.1))))) (below_size (by repeat (first | (with_reducible first | exact HB.out | apply below_alloc | apply pw_below_drewN | apply below_drew1 | refine below_set ?_ GE290.out) | exact HB.out)))); have n2_ := Aside0.mk (blk_below (g := gb290) (o := .cells #[.int .i64 0, .int .i64 0, .slice Aox11i0 y287.length cox11i0, .int .i64 0] 26 (0, 0)) (by (with_reducible repeat (first | refine blk_drewN ?_ _ | refine blk_drew ?_ | refine blk_alloc ?_ _)); refine blk_put (cs := #[.int .i64 0, .int .i64 0, .slice Aox11i0 y287.length cox11i0, .int .i64 0]) ?_ 3 _ rfl; (with_reducible repeat (first | refine blk_drewN ?_ _ | refine blk_drew ?_ | refine blk_alloc ?_ _)); refine blk_put (cs := #[.int .i64 0, .int .i64 0, .slice none 0 0, .int .i64 0]) ?_ 2 _ rfl; (with_reducible repeat (first | refine blk_drewN ?_ _ | refine blk_drew ?_ | refine blk_alloc ?_ _)); refine blk_put (cs := #[.int .i64 0, .int .i64 0, .slice none 0 0, .int .i64 0]) ?_ 1 _ rfl; (with_reducible repeat (first | refine blk_drewN ?_ _ | refine blk_drew ?_ | refine blk_alloc ?_ _)); refine blk_put (cs := #[.int .i64 0, .int .i64 0, .slice none 0 0, .int .i64 0]) ?_ 0 _ rfl; (with_reducible repeat (first | refine blk_drewN ?_ _ | refine blk_drew ?_ | refine blk_alloc ?_ _)); exact BK290.out) hb); have n3_ := Aside0.mk (below_step (by repeat (first | (with_reducible first | exact HB.out | apply below_alloc | apply pw_below_drewN | apply below_drew1 | refine below_set ?_ GE290.out) | exact HB.out)) hb); clear HO289; clear BK290; clear HB; have HO289 := n0_; have HO293 := n1_; have BK290 := n2_; have HB := n3_; clear n0_ n1_ n2_ n3_; clear hb ho45; obtain ⟨Aox17i0, cox17i0, eox17i0⟩ := Kd.R_slice HO293.out; subst eox17i0) | ((with_reducible refine gate_dst (N := 17) rfl ?_); (try (refine gate_guard (by rfl) ?_; dsimp only)); refine Kd.R_lit k33 _ 33 ?hg (N := 17) ?hd (xs := ([(⟨3, 1, (⟨#[]⟩ : ByteArray)⟩ : S33)] : List (S33))) (inner := [.int .i64 3, .int .i64 1, .string (⟨#[]⟩ : ByteArray)]) (ok := fun _ => True) (okp := fun _ => True) ?hr ?hp (fun _ hk => hk) trivial (Below.refl _ _) (Nat.le_refl _) (by simp) ?_; (case hd => rfl); (case hg => rfl); (case hr => first | (go_simp; done) | (go_simp; rfl)); (case hp => exact (Reps.c3 (show Kd.M k33 _ _ _ (⟨3, 1, (⟨#[]⟩ : ByteArray)⟩ : S33) [.int .i64 3, .int .i64 1, .string (⟨#[]⟩ : ByteArray)] from (k33_mkM _ _ _ (⟨3, 1, (⟨#[]⟩ : ByteArray)⟩ : S33) )) (Reps.none _ _))); intro v292 wx17i0 ho69 hb hg_ hnew_; clear hg_ hnew_; (first | rw [← Ny291.out] at ho69 | (simp only [Int.reduceToNat] at ho69; rw [← Ny291.out] at ho69)); have n0_ := Aside0.mk (Kd.R_elder' (by (with_reducible repeat (first | apply Kd.R_alloc | apply Kd.R_drewN | apply Kd.R_drew)); exact (Kd.R_mono (Kd.R_far (p := ⟨gb290, 3, none⟩) (Kd.R_far (p := ⟨gb290, 2, none⟩) (Kd.R_far (p := ⟨gb290, 1, none⟩) (Kd.R_far (p := ⟨gb290, 0, none⟩) (Kd.R_types HO289.out BK290.out (by decide)) (fun _ hk => hk.2) (.int .i64 0)) (fun _ hk => hk.2) (.int .i64 0)) (fun _ hk => hk.2) (.slice Aox11i0 y287.length cox11i0)) (fun _ hk => hk.2) (.int .i64 0)) (fun _ h_ => h_.1))) (Kd.R_base ho69) hb); have n1_ := Aside0.mk (Kd.R_lower (Kd.R_new' ho69 (Kd.R_lt (by (with_reducible repeat (first | apply Kd.R_alloc | apply Kd.R_drewN | apply Kd.R_drew)); exact (Kd.R_mono (Kd.R_far (p := ⟨gb290, 3, none⟩) (Kd.R_far (p := ⟨gb290, 2, none⟩) (Kd.R_far (p := ⟨gb290, 1, none⟩) (Kd.R_far (p := ⟨gb290, 0, none⟩) (Kd.R_types HO289.out BK290.out (by decide)) (fun _ hk => hk.2) (.int .i64 0)) (fun _ hk => hk.2) (.int .i64 0)) (fun _ hk => hk.2) (.slice Aox11i0 y287.length cox11i0)) (fun _ hk => hk.2) (.int .i64 0)) (fun _ h_ => h_.1))))) (below_size (by repeat (first | (with_reducible first | exact HB.out | apply below_alloc | apply pw_below_drewN | apply below_drew1 | refine below_set ?_ GE290.out) | exact HB.out)))); have n2_ := Aside0.mk (blk_below (g := gb290) (o := .cells #[.int .i64 0, .int .i64 0, .slice Aox11i0 y287.length cox11i0, .int .i64 0] 26 (0, 0)) (by (with_reducible repeat (first | refine blk_drewN ?_ _ | refine blk_drew ?_ | refine blk_alloc ?_ _)); refine blk_put (cs := #[.int .i64 0, .int .i64 0, .slice Aox11i0 y287.length cox11i0, .int .i64 0]) ?_ 3 _ rfl; (with_reducible repeat (first | refine blk_drewN ?_ _ | refine blk_drew ?_ | refine blk_alloc ?_ _)); refine blk_put (cs := #[.int .i64 0, .int .i64 0, .slice none 0 0, .int .i64 0]) ?_ 2 _ rfl; (with_reducible repeat (first | refine blk_drewN ?_ _ | refine blk_drew ?_ | refine blk_alloc ?_ _)); refine blk_put (cs := #[.int .i64 0, .int .i64 0, .slice none 0 0, .int .i64 0]) ?_ 1 _ rfl; (with_reducible repeat (first | refine blk_drewN ?_ _ | refine blk_drew ?_ | refine blk_alloc ?_ _)); refine blk_put (cs := #[.int .i64 0, .int .i64 0, .slice none 0 0, .int .i64 0]) ?_ 0 _ rfl; (with_reducible repeat (first | refine blk_drewN ?_ _ | refine blk_drew ?_ | refine blk_alloc ?_ _)); exact BK290.out) hb); have n3_ := Aside0.mk (below_step (by repeat (first | (with_reducible first | exact HB.out | apply below_alloc | apply pw_below_drewN | apply below_drew1 | refine below_set ?_ GE290.out) | exact HB.out)) hb); clear HO289; clear BK290; clear HB; have HO289 := n0_; have HO293 := n1_; have BK290 := n2_; have HB := n3_; clear n0_ n1_ n2_ n3_; clear hb ho69; obtain ⟨Aox17i0, cox17i0, eox17i0⟩ := Kd.R_slice HO293.out; subst eox17i0) | ((with_reducible refine gate_dst (N := 17) rfl ?_); (try (refine gate_guard (by rfl) ?_; dsimp only)); refine Kd.R_lit k33 _ 33 ?hg (N := 17) ?hd (xs := ([(⟨3, 1, (⟨#[]⟩ : ByteArray)⟩ : S33)] : List (S33))) (inner := [.int .i64 3, .int .i64 1, .string (⟨#[]⟩ : ByteArray)]) (ok := fun _ => True) (okp := fun _ => True) ?hr ?hp (fun _ hk => hk) trivial (Below.refl _ _) (Nat.le_refl _) (by simp) ?_; (case hd => rfl); (case hg => rfl); (case hr => first | (go_simp; done) | (go_simp; rfl)); (case hp => exact (Reps.c3 (show Kd.M k33 _ _ _ (⟨3, 1, (⟨#[]⟩ : ByteArray)⟩ : S33) [.int .i64 3, .int .i64 1, .string (⟨#[]⟩ : ByteArray)] from (k33_mkM _ _ _ (⟨3, 1, (⟨#[]⟩ : ByteArray)⟩ : S33) )) (Reps.none _ _))); intro v292 wx17i0 ho93 hb hg_ hnew_; clear hg_ hnew_; (first | rw [← Ny291.out] at ho93 | (simp only [Int.reduceToNat] at ho93; rw [← Ny291.out] at ho93)); have n0_ := Aside0.mk (Kd.R_elder' (by (with_reducible repeat (first | apply Kd.R_alloc | apply Kd.R_drewN | apply Kd.R_drew)); exact (Kd.R_mono (Kd.R_far (p := ⟨gb290, 3, none⟩) (Kd.R_far (p := ⟨gb290, 2, none⟩) (Kd.R_far (p := ⟨gb290, 1, none⟩) (Kd.R_far (p := ⟨gb290, 0, none⟩) (Kd.R_types HO289.out BK290.out (by decide)) (fun _ hk => hk.2) (.int .i64 0)) (fun _ hk => hk.2) (.int .i64 0)) (fun _ hk => hk.2) (.slice Aox11i0 y287.length cox11i0)) (fun _ hk => hk.2) (.int .i64 0)) (fun _ h_ => h_.1))) (Kd.R_base ho93) hb); have n1_ := Aside0.mk (Kd.R_lower (Kd.R_new' ho93 (Kd.R_lt (by (with_reducible repeat (first | apply Kd.R_alloc | apply Kd.R_drewN | apply Kd.R_drew)); exact (Kd.R_mono (Kd.R_far (p := ⟨gb290, 3, none⟩) (Kd.R_far (p := ⟨gb290, 2, none⟩) (Kd.R_far (p := ⟨gb290, 1, none⟩) (Kd.R_far (p := ⟨gb290, 0, none⟩) (Kd.R_types HO289.out BK290.out (by decide)) (fun _ hk => hk.2) (.int .i64 0)) (fun _ hk => hk.2) (.int .i64 0)) (fun _ hk => hk.2) (.slice Aox11i0 y287.length cox11i0)) (fun _ hk => hk.2) (.int .i64 0)) (fun _ h_ => h_.1))))) (below_size (by repeat (first | (with_reducible first | exact HB.out | apply below_alloc | apply pw_below_drewN | apply below_drew1 | refine below_set ?_ GE290.out) | exact HB.out)))); have n2_ := Aside0.mk (blk_below (g := gb290) (o := .cells #[.int .i64 0, .int .i64 0, .slice Aox11i0 y287.length cox11i0, .int .i64 0] 26 (0, 0)) (by (with_reducible repeat (first | refine blk_drewN ?_ _ | refine blk_drew ?_ | refine blk_alloc ?_ _)); refine blk_put (cs := #[.int .i64 0, .int .i64 0, .slice Aox11i0 y287.length cox11i0, .int .i64 0]) ?_ 3 _ rfl; (with_reducible repeat (first | refine blk_drewN ?_ _ | refine blk_drew ?_ | refine blk_alloc ?_ _)); refine blk_put (cs := #[.int .i64 0, .int .i64 0, .slice none 0 0, .int .i64 0]) ?_ 2 _ rfl; (with_reducible repeat (first | refine blk_drewN ?_ _ | refine blk_drew ?_ | refine blk_alloc ?_ _)); refine blk_put (cs := #[.int .i64 0, .int .i64 0, .slice none 0 0, .int .i64 0]) ?_ 1 _ rfl; (with_reducible repeat (first | refine blk_drewN ?_ _ | refine blk_drew ?_ | refine blk_alloc ?_ _)); refine blk_put (cs := #[.int .i64 0, .int .i64 0, .slice none 0 0, .int .i64 0]) ?_ 0 _ rfl; (with_reducible repeat (first | refine blk_drewN ?_ _ | refine blk_drew ?_ | refine blk_alloc ?_ _)); exact BK290.out) hb); have n3_ := Aside0.mk (below_step (by repeat (first | (with_reducible first | exact HB.out | apply below_alloc | apply pw_below_drewN | apply below_drew1 | refine below_set ?_ GE290.out) | exact HB.out)) hb); clear HO289; clear BK290; clear HB; have HO289 := n0_; have HO293 := n1_; have BK290 := n2_; have HB := n3_; clear n0_ n1_ n2_ n3_; clear hb ho93; obtain ⟨Aox17i0, cox17i0, eox17i0⟩ := Kd.R_slice HO293.out; subst eox17i0) | ((with_reducible refine gate_callee (f := 20) rfl ?_); refine goesL_ (some 18) rfl rfl Try.func20 (by kernel_rfl) rfl #[.agg #[.int .i64 0, .int .i64 0, .slice Aox11i0 y287.length cox11i0, .int .i64 0], .agg #[.int .i64 2, .int .i64 1], .slice Aox17i0 y291.length cox17i0, .int .i64 9] rfl (by (try simp only [List.map_toArray, List.map_cons, List.map_nil]); first | done | rfl | (simp only [List.length_drop, List.length_take]; rfl)) ?_; (with_reducible refine (entries_Accept.calls k 0 0 _ _ y287 0 2 1 _ _ y291 9 t294 t295 t296 t299 t300 _ t302 _ ?side1 ?side2 ?side3 ?side4 A1.out).mono ?_); (case side1 => repeat (first | exact (Kd.R_reads' HO289.out).2.2 | (with_reducible refine Kd.C_alloc ?_ _) | (with_reducible refine Kd.C_drewN ?_ _) | (with_reducible refine Kd.C_drew ?_))); (case side2 => exact (Kd.R_reads' HO289.out).2.1); (case side3 => repeat (first | exact (Kd.R_reads' HO293.out).2.2 | (with_reducible refine Kd.C_alloc ?_ _) | (with_reducible refine Kd.C_drewN ?_ _) | (with_reducible refine Kd.C_drew ?_))); (case side4 => exact (Kd.R_reads' HO293.out).2.1); rintro e wx18i0 ⟨v297, rfl, ho0, hb⟩; refine ⟨_, rfl, ?_⟩; have n0_ := Aside0.mk (Kd.R_elder' (by (with_reducible repeat (first | apply Kd.R_alloc | apply Kd.R_drewN | apply Kd.R_drew)); exact HO289.out) (Kd.R_base ho0) hb); have n1_ := Aside0.mk (Kd.R_elder' (by (with_reducible repeat (first | apply Kd.R_alloc | apply Kd.R_drewN | apply Kd.R_drew)); exact HO293.out) (Kd.R_base ho0) hb); have n2_ := Aside0.mk (Kd.R_lower (Kd.R_new' (Kd.R_new' ho0 (Kd.R_lt (by (with_reducible repeat (first | apply Kd.R_alloc | apply Kd.R_drewN | apply Kd.R_drew)); exact HO289.out))) (Kd.R_lt (by (with_reducible repeat (first | apply Kd.R_alloc | apply Kd.R_drewN | apply Kd.R_drew)); exact HO293.out))) (below_size (by repeat (first | (with_reducible first | exact HB.out | apply below_alloc | apply pw_below_drewN | apply below_drew1 | refine below_set ?_ GE290.out) | exact HB.out)))); have n3_ := Aside0.mk (blk_below (g := gb290) (o := .cells #[.int .i64 0, .int .i64 0, .slice Aox11i0 y287.length cox11i0, .int .i64 0] 26 (0, 0)) (by (with_reducible repeat (first | refine blk_drewN ?_ _ | refine blk_drew ?_ | refine blk_alloc ?_ _)); exact BK290.out) hb); have n4_ := Aside0.mk (below_step (by repeat (first | (with_reducible first | exact HB.out | apply below_alloc | apply pw_below_drewN | apply below_drew1 | refine below_set ?_ GE290.out) | exact HB.out)) hb); clear HO289; clear HO293; clear BK290; clear HB; have HO289 := n0_; have HO293 := n1_; have HO298 := n2_; have BK290 := n3_; have HB := n4_; clear n0_ n1_ n2_ n3_ n4_; (try clear hb); (try clear hb2); (try clear hk); (try clear hi); (try clear ho0)) | ((with_reducible refine gate_dst (N := 2) rfl ?_); (try (refine gate_guard (by rfl) ?_; dsimp only)); refine box_event ?hg (N := 2) ?hd (cs := #[.int .i64 0, .int .i64 0, .slice none 0 0, .int .i64 0]) (t := 26) ?hr ?_; (case hd => rfl); (case hg => rfl); (case hr => first | (go_simp; done) | (go_simp; rfl)); intro gb303 hg wx2i0 hbox hb; have n0_ := Aside0.mk (Kd.R_below (by (with_reducible repeat (first | apply Kd.R_alloc | apply Kd.R_drewN | apply Kd.R_drew)); exact HO289.out) hb); have n1_ := Aside0.mk (Kd.R_below (by (with_reducible repeat (first | apply Kd.R_alloc | apply Kd.R_drewN | apply Kd.R_drew)); exact HO293.out) hb); have n2_ := Aside0.mk (Kd.R_below (by (with_reducible repeat (first | apply Kd.R_alloc | apply Kd.R_drewN | apply Kd.R_drew)); exact HO298.out) hb); have n3_ := Aside0.mk (blk_below (g := gb290) (o := .cells #[.int .i64 0, .int .i64 0, .slice Aox11i0 y287.length cox11i0, .int .i64 0] 26 (0, 0)) (by (with_reducible repeat (first | refine blk_drewN ?_ _ | refine blk_drew ?_ | refine blk_alloc ?_ _)); exact BK290.out) hb); have n4_ := Aside0.mk (below_step (by repeat (first | (with_reducible first | exact HB.out | apply below_alloc | apply pw_below_drewN | apply below_drew1 | refine below_set ?_ GE290.out) | exact HB.out)) hb); have n5_ := Aside0.mk (hbox); have n6_ := Aside0.mk ((by rw [hg]; exact (below_size (by repeat (first | (with_reducible first | exact HB.out | apply below_alloc | apply pw_below_drewN | apply below_drew1 | refine below_set ?_ GE290.out) | exact HB.out))) : w.heap.size ≤ gb303)); have n7_ := Aside0.mk ((by rw [hg]; exact (below_size (by repeat (first | (with_reducible first | exact HB.out | apply below_alloc | apply pw_below_drewN | apply below_drew1 | refine below_set ?_ GE290.out) | exact HB.out))) : w.heap.size ≤ gb303)); have n8_ := Aside0.mk ((by rw [hg]; exact Nat.ne_of_lt (blk_lt (g := gb290) (o := .cells #[.int .i64 0, .int .i64 0, .slice Aox11i0 y287.length cox11i0, .int .i64 0] 26 (0, 0)) (by (with_reducible repeat (first | refine blk_drewN ?_ _ | refine blk_drew ?_ | refine blk_alloc ?_ _)); exact BK290.out)) : gb290 ≠ gb303)); have n9_ := Aside0.mk ((by rw [hg]; exact Nat.ne_of_gt (blk_lt (g := gb290) (o := .cells #[.int .i64 0, .int .i64 0, .slice Aox11i0 y287.length cox11i0, .int .i64 0] 26 (0, 0)) (by (with_reducible repeat (first | refine blk_drewN ?_ _ | refine blk_drew ?_ | refine blk_alloc ?_ _)); exact BK290.out)) : gb303 ≠ gb290)); clear HO289; clear HO293; clear HO298; clear BK290; clear HB; have HO289 := n0_; have HO293 := n1_; have HO298 := n2_; have BK290 := n3_; have HB := n4_; have BK303 := n5_; have GW303 := n6_; have GE303 := n7_; have NB290_303 := n8_; have NB303_290 := n9_; clear n0_ n1_ n2_ n3_ n4_ n5_ n6_ n7_ n8_ n9_; clear hb hbox hg; have hnbx2b303_290 := NB303_290.out; have hncx2b290_303 := NB290_303.out; have hczx2b303_0 : wx2i0.cell? ⟨gb303, 0, none⟩ = some (.int .i64 0) := (blk_cell BK303.out 0).trans rfl; have hczx2b303_1 : wx2i0.cell? ⟨gb303, 1, none⟩ = some (.int .i64 0) := (blk_cell BK303.out 1).trans rfl; have hczx2b303_2 : wx2i0.cell? ⟨gb303, 2, none⟩ = some (.slice none 0 0) := (blk_cell BK303.out 2).trans rfl; have hczx2b303_3 : wx2i0.cell? ⟨gb303, 3, none⟩ = some (.int .i64 0) := (blk_cell BK303.out 3).trans rfl; have hfzx2b303_0 := blk_frozen BK303.out 0; have hfzx2b303_1 := blk_frozen BK303.out 1; have hfzx2b303_2 := blk_frozen BK303.out 2; have hfzx2b303_3 := blk_frozen BK303.out 3; obtain ⟨Aox2i0, cox2i0, eox2i0⟩ := Kd.R_slice HO298.out; subst eox2i0; have hczx2b290_0 : wx2i0.cell? ⟨gb290, 0, none⟩ = some (.int .i64 0) := (blk_cell BK290.out 0).trans rfl; have hczx2b290_1 : wx2i0.cell? ⟨gb290, 1, none⟩ = some (.int .i64 0) := (blk_cell BK290.out 1).trans rfl; have hczx2b290_2 : wx2i0.cell? ⟨gb290, 2, none⟩ = some (.slice Aox11i0 y287.length cox11i0) := (blk_cell BK290.out 2).trans rfl; have hczx2b290_3 : wx2i0.cell? ⟨gb290, 3, none⟩ = some (.int .i64 0) := (blk_cell BK290.out 3).trans rfl; have hfzx2b290_0 := blk_frozen BK290.out 0; have hfzx2b290_1 := blk_frozen BK290.out 1; have hfzx2b290_2 := blk_frozen BK290.out 2; have hfzx2b290_3 := blk_frozen BK290.out 3) | ((with_reducible refine gate_dst (N := 25) rfl ?_); (try (refine gate_guard (by rfl) ?_; dsimp only)); refine Kd.R_lit (Kd.int .i64) _ 3 ?hg (N := 25) ?hd (xs := ([3, 3, 1] : List Int)) (inner := [.int .i64 3, .int .i64 3, .int .i64 1]) (ok := fun _ => True) (okp := fun _ => True) ?hr ?hp (fun _ hk => hk) trivial (Below.refl _ _) (Nat.le_refl _) (by simp) ?_; (case hd => rfl); (case hg => rfl); (case hr => first | (go_simp; done) | (go_simp; rfl)); (case hp => exact (Reps.one (show Kd.M (Kd.int .i64) _ _ _ 3 [.int .i64 3] from rfl) (Reps.one (show Kd.M (Kd.int .i64) _ _ _ 3 [.int .i64 3] from rfl) (Reps.one (show Kd.M (Kd.int .i64) _ _ _ 1 [.int .i64 1] from rfl) (Reps.none _ _))))); intro v305 wx25i0 ho28 hb hg_ hnew_; clear hg_ hnew_; (first | rw [← Ny304.out] at ho28 | (simp only [Int.reduceToNat] at ho28; rw [← Ny304.out] at ho28)); have n0_ := Aside0.mk (Kd.R_below (by (with_reducible repeat (first | apply Kd.R_alloc | apply Kd.R_drewN | apply Kd.R_drew)); exact (Kd.R_mono (Kd.R_far (p := ⟨gb303, 3, none⟩) (Kd.R_far (p := ⟨gb303, 2, none⟩) (Kd.R_far (p := ⟨gb303, 1, none⟩) (Kd.R_far (p := ⟨gb303, 0, none⟩) (Kd.R_types HO289.out BK303.out (by decide)) (fun _ hk => hk.2) (.int .i64 t294)) (fun _ hk => hk.2) (.int .i64 t295)) (fun _ hk => hk.2) (.slice Aox2i0 t296.length cox2i0)) (fun _ hk => hk.2) (.int .i64 t299)) (fun _ h_ => h_.1))) hb); have n1_ := Aside0.mk (Kd.R_below (by (with_reducible repeat (first | apply Kd.R_alloc | apply Kd.R_drewN | apply Kd.R_drew)); exact (Kd.R_mono (Kd.R_far (p := ⟨gb303, 3, none⟩) (Kd.R_far (p := ⟨gb303, 2, none⟩) (Kd.R_far (p := ⟨gb303, 1, none⟩) (Kd.R_far (p := ⟨gb303, 0, none⟩) (Kd.R_types HO293.out BK303.out (by decide)) (fun _ hk => hk.2) (.int .i64 t294)) (fun _ hk => hk.2) (.int .i64 t295)) (fun _ hk => hk.2) (.slice Aox2i0 t296.length cox2i0)) (fun _ hk => hk.2) (.int .i64 t299)) (fun _ h_ => h_.1))) hb); have n2_ := Aside0.mk (Kd.R_below (by (with_reducible repeat (first | apply Kd.R_alloc | apply Kd.R_drewN | apply Kd.R_drew)); exact (Kd.R_mono (Kd.R_far (p := ⟨gb303, 3, none⟩) (Kd.R_far (p := ⟨gb303, 2, none⟩) (Kd.R_far (p := ⟨gb303, 1, none⟩) (Kd.R_far (p := ⟨gb303, 0, none⟩) (Kd.R_types HO298.out BK303.out (by decide)) (fun _ hk => hk.2) (.int .i64 t294)) (fun _ hk => hk.2) (.int .i64 t295)) (fun _ hk => hk.2) (.slice Aox2i0 t296.length cox2i0)) (fun _ hk => hk.2) (.int .i64 t299)) (fun _ h_ => h_.1))) hb); have n3_ := Aside0.mk (Kd.R_lower ho28 (below_size (by repeat (first | (with_reducible first | exact HB.out | apply below_alloc | apply pw_below_drewN | apply below_drew1 | refine below_set ?_ GE290.out | refine below_set ?_ GE303.out) | exact HB.out)))); have n4_ := Aside0.mk (blk_below (g := gb290) (o := .cells #[.int .i64 0, .int .i64 0, .slice Aox11i0 y287.length cox11i0, .int .i64 0] 26 (0, 0)) (by (with_reducible repeat (first | refine blk_drewN ?_ _ | refine blk_drew ?_ | refine blk_alloc ?_ _)); refine blk_far ?_ NB290_303.out _; (with_reducible repeat (first | refine blk_drewN ?_ _ | refine blk_drew ?_ | refine blk_alloc ?_ _)); refine blk_far ?_ NB290_303.out _; (with_reducible repeat (first | refine blk_drewN ?_ _ | refine blk_drew ?_ | refine blk_alloc ?_ _)); refine blk_far ?_ NB290_303.out _; (with_reducible repeat (first | refine blk_drewN ?_ _ | refine blk_drew ?_ | refine blk_alloc ?_ _)); refine blk_far ?_ NB290_303.out _; (with_reducible repeat (first | refine blk_drewN ?_ _ | refine blk_drew ?_ | refine blk_alloc ?_ _)); exact BK290.out) hb); have n5_ := Aside0.mk (blk_below (g := gb303) (o := .cells #[.int .i64 t294, .int .i64 t295, .slice Aox2i0 t296.length cox2i0, .int .i64 t299] 26 (0, 0)) (by (with_reducible repeat (first | refine blk_drewN ?_ _ | refine blk_drew ?_ | refine blk_alloc ?_ _)); refine blk_put (cs := #[.int .i64 t294, .int .i64 t295, .slice Aox2i0 t296.length cox2i0, .int .i64 0]) ?_ 3 _ rfl; (with_reducible repeat (first | refine blk_drewN ?_ _ | refine blk_drew ?_ | refine blk_alloc ?_ _)); refine blk_put (cs := #[.int .i64 t294, .int .i64 t295, .slice none 0 0, .int .i64 0]) ?_ 2 _ rfl; (with_reducible repeat (first | refine blk_drewN ?_ _ | refine blk_drew ?_ | refine blk_alloc ?_ _)); refine blk_put (cs := #[.int .i64 t294, .int .i64 0, .slice none 0 0, .int .i64 0]) ?_ 1 _ rfl; (with_reducible repeat (first | refine blk_drewN ?_ _ | refine blk_drew ?_ | refine blk_alloc ?_ _)); refine blk_put (cs := #[.int .i64 0, .int .i64 0, .slice none 0 0, .int .i64 0]) ?_ 0 _ rfl; (with_reducible repeat (first | refine blk_drewN ?_ _ | refine blk_drew ?_ | refine blk_alloc ?_ _)); exact BK303.out) hb); have n6_ := Aside0.mk (below_step (by repeat (first | (with_reducible first | exact HB.out | apply below_alloc | apply pw_below_drewN | apply below_drew1 | refine below_set ?_ GE290.out | refine below_set ?_ GE303.out) | exact HB.out)) hb); clear HO289; clear HO293; clear HO298; clear BK290; clear BK303; clear HB; have HO289 := n0_; have HO293 := n1_; have HO298 := n2_; have HO306 := n3_; have BK290 := n4_; have BK303 := n5_; have HB := n6_; clear n0_ n1_ n2_ n3_ n4_ n5_ n6_; clear hb ho28; obtain ⟨Aox25i0, cox25i0, eox25i0⟩ := Kd.R_slice HO306.out; subst eox25i0) | ((with_reducible refine gate_dst (N := 25) rfl ?_); (try (refine gate_guard (by rfl) ?_; dsimp only)); refine Kd.R_lit (Kd.int .i64) _ 3 ?hg (N := 25) ?hd (xs := ([3, 3, 1] : List Int)) (inner := [.int .i64 3, .int .i64 3, .int .i64 1]) (ok := fun _ => True) (okp := fun _ => True) ?hr ?hp (fun _ hk => hk) trivial (Below.refl _ _) (Nat.le_refl _) (by simp) ?_; (case hd => rfl); (case hg => rfl); (case hr => first | (go_simp; done) | (go_simp; rfl)); (case hp => exact (Reps.one (show Kd.M (Kd.int .i64) _ _ _ 3 [.int .i64 3] from rfl) (Reps.one (show Kd.M (Kd.int .i64) _ _ _ 3 [.int .i64 3] from rfl) (Reps.one (show Kd.M (Kd.int .i64) _ _ _ 1 [.int .i64 1] from rfl) (Reps.none _ _))))); intro v305 wx25i0 ho54 hb hg_ hnew_; clear hg_ hnew_; (first | rw [← Ny304.out] at ho54 | (simp only [Int.reduceToNat] at ho54; rw [← Ny304.out] at ho54)); have n0_ := Aside0.mk (Kd.R_below (by (with_reducible repeat (first | apply Kd.R_alloc | apply Kd.R_drewN | apply Kd.R_drew)); exact (Kd.R_mono (Kd.R_far (p := ⟨gb303, 3, none⟩) (Kd.R_far (p := ⟨gb303, 2, none⟩) (Kd.R_far (p := ⟨gb303, 1, none⟩) (Kd.R_far (p := ⟨gb303, 0, none⟩) (Kd.R_types HO289.out BK303.out (by decide)) (fun _ hk => hk.2) (.int .i64 t294)) (fun _ hk => hk.2) (.int .i64 t295)) (fun _ hk => hk.2) (.slice Aox2i0 t296.length cox2i0)) (fun _ hk => hk.2) (.int .i64 t299)) (fun _ h_ => h_.1))) hb); have n1_ := Aside0.mk (Kd.R_below (by (with_reducible repeat (first | apply Kd.R_alloc | apply Kd.R_drewN | apply Kd.R_drew)); exact (Kd.R_mono (Kd.R_far (p := ⟨gb303, 3, none⟩) (Kd.R_far (p := ⟨gb303, 2, none⟩) (Kd.R_far (p := ⟨gb303, 1, none⟩) (Kd.R_far (p := ⟨gb303, 0, none⟩) (Kd.R_types HO293.out BK303.out (by decide)) (fun _ hk => hk.2) (.int .i64 t294)) (fun _ hk => hk.2) (.int .i64 t295)) (fun _ hk => hk.2) (.slice Aox2i0 t296.length cox2i0)) (fun _ hk => hk.2) (.int .i64 t299)) (fun _ h_ => h_.1))) hb); have n2_ := Aside0.mk (Kd.R_below (by (with_reducible repeat (first | apply Kd.R_alloc | apply Kd.R_drewN | apply Kd.R_drew)); exact (Kd.R_mono (Kd.R_far (p := ⟨gb303, 3, none⟩) (Kd.R_far (p := ⟨gb303, 2, none⟩) (Kd.R_far (p := ⟨gb303, 1, none⟩) (Kd.R_far (p := ⟨gb303, 0, none⟩) (Kd.R_types HO298.out BK303.out (by decide)) (fun _ hk => hk.2) (.int .i64 t294)) (fun _ hk => hk.2) (.int .i64 t295)) (fun _ hk => hk.2) (.slice Aox2i0 t296.length cox2i0)) (fun _ hk => hk.2) (.int .i64 t299)) (fun _ h_ => h_.1))) hb); have n3_ := Aside0.mk (Kd.R_lower ho54 (below_size (by repeat (first | (with_reducible first | exact HB.out | apply below_alloc | apply pw_below_drewN | apply below_drew1 | refine below_set ?_ GE290.out | refine below_set ?_ GE303.out) | exact HB.out)))); have n4_ := Aside0.mk (blk_below (g := gb290) (o := .cells #[.int .i64 0, .int .i64 0, .slice Aox11i0 y287.length cox11i0, .int .i64 0] 26 (0, 0)) (by (with_reducible repeat (first | refine blk_drewN ?_ _ | refine blk_drew ?_ | refine blk_alloc ?_ _)); refine blk_far ?_ NB290_303.out _; (with_reducible repeat (first | refine blk_drewN ?_ _ | refine blk_drew ?_ | refine blk_alloc ?_ _)); refine blk_far ?_ NB290_303.out _; (with_reducible repeat (first | refine blk_drewN ?_ _ | refine blk_drew ?_ | refine blk_alloc ?_ _)); refine blk_far ?_ NB290_303.out _; (with_reducible repeat (first | refine blk_drewN ?_ _ | refine blk_drew ?_ | refine blk_alloc ?_ _)); refine blk_far ?_ NB290_303.out _; (with_reducible repeat (first | refine blk_drewN ?_ _ | refine blk_drew ?_ | refine blk_alloc ?_ _)); exact BK290.out) hb); have n5_ := Aside0.mk (blk_below (g := gb303) (o := .cells #[.int .i64 t294, .int .i64 t295, .slice Aox2i0 t296.length cox2i0, .int .i64 t299] 26 (0, 0)) (by (with_reducible repeat (first | refine blk_drewN ?_ _ | refine blk_drew ?_ | refine blk_alloc ?_ _)); refine blk_put (cs := #[.int .i64 t294, .int .i64 t295, .slice Aox2i0 t296.length cox2i0, .int .i64 0]) ?_ 3 _ rfl; (with_reducible repeat (first | refine blk_drewN ?_ _ | refine blk_drew ?_ | refine blk_alloc ?_ _)); refine blk_put (cs := #[.int .i64 t294, .int .i64 t295, .slice none 0 0, .int .i64 0]) ?_ 2 _ rfl; (with_reducible repeat (first | refine blk_drewN ?_ _ | refine blk_drew ?_ | refine blk_alloc ?_ _)); refine blk_put (cs := #[.int .i64 t294, .int .i64 0, .slice none 0 0, .int .i64 0]) ?_ 1 _ rfl; (with_reducible repeat (first | refine blk_drewN ?_ _ | refine blk_drew ?_ | refine blk_alloc ?_ _)); refine blk_put (cs := #[.int .i64 0, .int .i64 0, .slice none 0 0, .int .i64 0]) ?_ 0 _ rfl; (with_reducible repeat (first | refine blk_drewN ?_ _ | refine blk_drew ?_ | refine blk_alloc ?_ _)); exact BK303.out) hb); have n6_ := Aside0.mk (below_step (by repeat (first | (with_reducible first | exact HB.out | apply below_alloc | apply pw_below_drewN | apply below_drew1 | refine below_set ?_ GE290.out | refine below_set ?_ GE303.out) | exact HB.out)) hb); clear HO289; clear HO293; clear HO298; clear BK290; clear BK303; clear HB; have HO289 := n0_; have HO293 := n1_; have HO298 := n2_; have HO306 := n3_; have BK290 := n4_; have BK303 := n5_; have HB := n6_; clear n0_ n1_ n2_ n3_ n4_ n5_ n6_; clear hb ho54; obtain ⟨Aox25i0, cox25i0, eox25i0⟩ := Kd.R_slice HO306.out; subst eox25i0) | ((with_reducible refine gate_dst (N := 25) rfl ?_); (try (refine gate_guard (by rfl) ?_; dsimp only)); refine Kd.R_lit (Kd.int .i64) _ 3 ?hg (N := 25) ?hd (xs := ([3, 3, 1] : List Int)) (inner := [.int .i64 3, .int .i64 3, .int .i64 1]) (ok := fun _ => True) (okp := fun _ => True) ?hr ?hp (fun _ hk => hk) trivial (Below.refl _ _) (Nat.le_refl _) (by simp) ?_; (case hd => rfl); (case hg => rfl); (case hr => first | (go_simp; done) | (go_simp; rfl)); (case hp => exact (Reps.one (show Kd.M (Kd.int .i64) _ _ _ 3 [.int .i64 3] from rfl) (Reps.one (show Kd.M (Kd.int .i64) _ _ _ 3 [.int .i64 3] from rfl) (Reps.one (show Kd.M (Kd.int .i64) _ _ _ 1 [.int .i64 1] from rfl) (Reps.none _ _))))); intro v305 wx25i0 ho78 hb hg_ hnew_; clear hg_ hnew_; (first | rw [← Ny304.out] at ho78 | (simp only [Int.reduceToNat] at ho78; rw [← Ny304.out] at ho78)); have n0_ := Aside0.mk (Kd.R_below (by (with_reducible repeat (first | apply Kd.R_alloc | apply Kd.R_drewN | apply Kd.R_drew)); exact (Kd.R_mono (Kd.R_far (p := ⟨gb303, 3, none⟩) (Kd.R_far (p := ⟨gb303, 2, none⟩) (Kd.R_far (p := ⟨gb303, 1, none⟩) (Kd.R_far (p := ⟨gb303, 0, none⟩) (Kd.R_types HO289.out BK303.out (by decide)) (fun _ hk => hk.2) (.int .i64 t294)) (fun _ hk => hk.2) (.int .i64 t295)) (fun _ hk => hk.2) (.slice Aox2i0 t296.length cox2i0)) (fun _ hk => hk.2) (.int .i64 t299)) (fun _ h_ => h_.1))) hb); have n1_ := Aside0.mk (Kd.R_below (by (with_reducible repeat (first | apply Kd.R_alloc | apply Kd.R_drewN | apply Kd.R_drew)); exact (Kd.R_mono (Kd.R_far (p := ⟨gb303, 3, none⟩) (Kd.R_far (p := ⟨gb303, 2, none⟩) (Kd.R_far (p := ⟨gb303, 1, none⟩) (Kd.R_far (p := ⟨gb303, 0, none⟩) (Kd.R_types HO293.out BK303.out (by decide)) (fun _ hk => hk.2) (.int .i64 t294)) (fun _ hk => hk.2) (.int .i64 t295)) (fun _ hk => hk.2) (.slice Aox2i0 t296.length cox2i0)) (fun _ hk => hk.2) (.int .i64 t299)) (fun _ h_ => h_.1))) hb); have n2_ := Aside0.mk (Kd.R_below (by (with_reducible repeat (first | apply Kd.R_alloc | apply Kd.R_drewN | apply Kd.R_drew)); exact (Kd.R_mono (Kd.R_far (p := ⟨gb303, 3, none⟩) (Kd.R_far (p := ⟨gb303, 2, none⟩) (Kd.R_far (p := ⟨gb303, 1, none⟩) (Kd.R_far (p := ⟨gb303, 0, none⟩) (Kd.R_types HO298.out BK303.out (by decide)) (fun _ hk => hk.2) (.int .i64 t294)) (fun _ hk => hk.2) (.int .i64 t295)) (fun _ hk => hk.2) (.slice Aox2i0 t296.length cox2i0)) (fun _ hk => hk.2) (.int .i64 t299)) (fun _ h_ => h_.1))) hb); have n3_ := Aside0.mk (Kd.R_lower ho78 (below_size (by repeat (first | (with_reducible first | exact HB.out | apply below_alloc | apply pw_below_drewN | apply below_drew1 | refine below_set ?_ GE290.out | refine below_set ?_ GE303.out) | exact HB.out)))); have n4_ := Aside0.mk (blk_below (g := gb290) (o := .cells #[.int .i64 0, .int .i64 0, .slice Aox11i0 y287.length cox11i0, .int .i64 0] 26 (0, 0)) (by (with_reducible repeat (first | refine blk_drewN ?_ _ | refine blk_drew ?_ | refine blk_alloc ?_ _)); refine blk_far ?_ NB290_303.out _; (with_reducible repeat (first | refine blk_drewN ?_ _ | refine blk_drew ?_ | refine blk_alloc ?_ _)); refine blk_far ?_ NB290_303.out _; (with_reducible repeat (first | refine blk_drewN ?_ _ | refine blk_drew ?_ | refine blk_alloc ?_ _)); refine blk_far ?_ NB290_303.out _; (with_reducible repeat (first | refine blk_drewN ?_ _ | refine blk_drew ?_ | refine blk_alloc ?_ _)); refine blk_far ?_ NB290_303.out _; (with_reducible repeat (first | refine blk_drewN ?_ _ | refine blk_drew ?_ | refine blk_alloc ?_ _)); exact BK290.out) hb); have n5_ := Aside0.mk (blk_below (g := gb303) (o := .cells #[.int .i64 t294, .int .i64 t295, .slice Aox2i0 t296.length cox2i0, .int .i64 t299] 26 (0, 0)) (by (with_reducible repeat (first | refine blk_drewN ?_ _ | refine blk_drew ?_ | refine blk_alloc ?_ _)); refine blk_put (cs := #[.int .i64 t294, .int .i64 t295, .slice Aox2i0 t296.length cox2i0, .int .i64 0]) ?_ 3 _ rfl; (with_reducible repeat (first | refine blk_drewN ?_ _ | refine blk_drew ?_ | refine blk_alloc ?_ _)); refine blk_put (cs := #[.int .i64 t294, .int .i64 t295, .slice none 0 0, .int .i64 0]) ?_ 2 _ rfl; (with_reducible repeat (first | refine blk_drewN ?_ _ | refine blk_drew ?_ | refine blk_alloc ?_ _)); refine blk_put (cs := #[.int .i64 t294, .int .i64 0, .slice none 0 0, .int .i64 0]) ?_ 1 _ rfl; (with_reducible repeat (first | refine blk_drewN ?_ _ | refine blk_drew ?_ | refine blk_alloc ?_ _)); refine blk_put (cs := #[.int .i64 0, .int .i64 0, .slice none 0 0, .int .i64 0]) ?_ 0 _ rfl; (with_reducible repeat (first | refine blk_drewN ?_ _ | refine blk_drew ?_ | refine blk_alloc ?_ _)); exact BK303.out) hb); have n6_ := Aside0.mk (below_step (by repeat (first | (with_reducible first | exact HB.out | apply below_alloc | apply pw_below_drewN | apply below_drew1 | refine below_set ?_ GE290.out | refine below_set ?_ GE303.out) | exact HB.out)) hb); clear HO289; clear HO293; clear HO298; clear BK290; clear BK303; clear HB; have HO289 := n0_; have HO293 := n1_; have HO298 := n2_; have HO306 := n3_; have BK290 := n4_; have BK303 := n5_; have HB := n6_; clear n0_ n1_ n2_ n3_ n4_ n5_ n6_; clear hb ho78; obtain ⟨Aox25i0, cox25i0, eox25i0⟩ := Kd.R_slice HO306.out; subst eox25i0) | ((with_reducible refine gate_dst (N := 25) rfl ?_); (try (refine gate_guard (by rfl) ?_; dsimp only)); refine Kd.R_lit (Kd.int .i64) _ 3 ?hg (N := 25) ?hd (xs := ([3, 3, 1] : List Int)) (inner := [.int .i64 3, .int .i64 3, .int .i64 1]) (ok := fun _ => True) (okp := fun _ => True) ?hr ?hp (fun _ hk => hk) trivial (Below.refl _ _) (Nat.le_refl _) (by simp) ?_; (case hd => rfl); (case hg => rfl); (case hr => first | (go_simp; done) | (go_simp; rfl)); (case hp => exact (Reps.one (show Kd.M (Kd.int .i64) _ _ _ 3 [.int .i64 3] from rfl) (Reps.one (show Kd.M (Kd.int .i64) _ _ _ 3 [.int .i64 3] from rfl) (Reps.one (show Kd.M (Kd.int .i64) _ _ _ 1 [.int .i64 1] from rfl) (Reps.none _ _))))); intro v305 wx25i0 ho102 hb hg_ hnew_; clear hg_ hnew_; (first | rw [← Ny304.out] at ho102 | (simp only [Int.reduceToNat] at ho102; rw [← Ny304.out] at ho102)); have n0_ := Aside0.mk (Kd.R_below (by (with_reducible repeat (first | apply Kd.R_alloc | apply Kd.R_drewN | apply Kd.R_drew)); exact (Kd.R_mono (Kd.R_far (p := ⟨gb303, 3, none⟩) (Kd.R_far (p := ⟨gb303, 2, none⟩) (Kd.R_far (p := ⟨gb303, 1, none⟩) (Kd.R_far (p := ⟨gb303, 0, none⟩) (Kd.R_types HO289.out BK303.out (by decide)) (fun _ hk => hk.2) (.int .i64 t294)) (fun _ hk => hk.2) (.int .i64 t295)) (fun _ hk => hk.2) (.slice Aox2i0 t296.length cox2i0)) (fun _ hk => hk.2) (.int .i64 t299)) (fun _ h_ => h_.1))) hb); have n1_ := Aside0.mk (Kd.R_below (by (with_reducible repeat (first | apply Kd.R_alloc | apply Kd.R_drewN | apply Kd.R_drew)); exact (Kd.R_mono (Kd.R_far (p := ⟨gb303, 3, none⟩) (Kd.R_far (p := ⟨gb303, 2, none⟩) (Kd.R_far (p := ⟨gb303, 1, none⟩) (Kd.R_far (p := ⟨gb303, 0, none⟩) (Kd.R_types HO293.out BK303.out (by decide)) (fun _ hk => hk.2) (.int .i64 t294)) (fun _ hk => hk.2) (.int .i64 t295)) (fun _ hk => hk.2) (.slice Aox2i0 t296.length cox2i0)) (fun _ hk => hk.2) (.int .i64 t299)) (fun _ h_ => h_.1))) hb); have n2_ := Aside0.mk (Kd.R_below (by (with_reducible repeat (first | apply Kd.R_alloc | apply Kd.R_drewN | apply Kd.R_drew)); exact (Kd.R_mono (Kd.R_far (p := ⟨gb303, 3, none⟩) (Kd.R_far (p := ⟨gb303, 2, none⟩) (Kd.R_far (p := ⟨gb303, 1, none⟩) (Kd.R_far (p := ⟨gb303, 0, none⟩) (Kd.R_types HO298.out BK303.out (by decide)) (fun _ hk => hk.2) (.int .i64 t294)) (fun _ hk => hk.2) (.int .i64 t295)) (fun _ hk => hk.2) (.slice Aox2i0 t296.length cox2i0)) (fun _ hk => hk.2) (.int .i64 t299)) (fun _ h_ => h_.1))) hb); have n3_ := Aside0.mk (Kd.R_lower ho102 (below_size (by repeat (first | (with_reducible first | exact HB.out | apply below_alloc | apply pw_below_drewN | apply below_drew1 | refine below_set ?_ GE290.out | refine below_set ?_ GE303.out) | exact HB.out)))); have n4_ := Aside0.mk (blk_below (g := gb290) (o := .cells #[.int .i64 0, .int .i64 0, .slice Aox11i0 y287.length cox11i0, .int .i64 0] 26 (0, 0)) (by (with_reducible repeat (first | refine blk_drewN ?_ _ | refine blk_drew ?_ | refine blk_alloc ?_ _)); refine blk_far ?_ NB290_303.out _; (with_reducible repeat (first | refine blk_drewN ?_ _ | refine blk_drew ?_ | refine blk_alloc ?_ _)); refine blk_far ?_ NB290_303.out _; (with_reducible repeat (first | refine blk_drewN ?_ _ | refine blk_drew ?_ | refine blk_alloc ?_ _)); refine blk_far ?_ NB290_303.out _; (with_reducible repeat (first | refine blk_drewN ?_ _ | refine blk_drew ?_ | refine blk_alloc ?_ _)); refine blk_far ?_ NB290_303.out _; (with_reducible repeat (first | refine blk_drewN ?_ _ | refine blk_drew ?_ | refine blk_alloc ?_ _)); exact BK290.out) hb); have n5_ := Aside0.mk (blk_below (g := gb303) (o := .cells #[.int .i64 t294, .int .i64 t295, .slice Aox2i0 t296.length cox2i0, .int .i64 t299] 26 (0, 0)) (by (with_reducible repeat (first | refine blk_drewN ?_ _ | refine blk_drew ?_ | refine blk_alloc ?_ _)); refine blk_put (cs := #[.int .i64 t294, .int .i64 t295, .slice Aox2i0 t296.length cox2i0, .int .i64 0]) ?_ 3 _ rfl; (with_reducible repeat (first | refine blk_drewN ?_ _ | refine blk_drew ?_ | refine blk_alloc ?_ _)); refine blk_put (cs := #[.int .i64 t294, .int .i64 t295, .slice none 0 0, .int .i64 0]) ?_ 2 _ rfl; (with_reducible repeat (first | refine blk_drewN ?_ _ | refine blk_drew ?_ | refine blk_alloc ?_ _)); refine blk_put (cs := #[.int .i64 t294, .int .i64 0, .slice none 0 0, .int .i64 0]) ?_ 1 _ rfl; (with_reducible repeat (first | refine blk_drewN ?_ _ | refine blk_drew ?_ | refine blk_alloc ?_ _)); refine blk_put (cs := #[.int .i64 0, .int .i64 0, .slice none 0 0, .int .i64 0]) ?_ 0 _ rfl; (with_reducible repeat (first | refine blk_drewN ?_ _ | refine blk_drew ?_ | refine blk_alloc ?_ _)); exact BK303.out) hb); have n6_ := Aside0.mk (below_step (by repeat (first | (with_reducible first | exact HB.out | apply below_alloc | apply pw_below_drewN | apply below_drew1 | refine below_set ?_ GE290.out | refine below_set ?_ GE303.out) | exact HB.out)) hb); clear HO289; clear HO293; clear HO298; clear BK290; clear BK303; clear HB; have HO289 := n0_; have HO293 := n1_; have HO298 := n2_; have HO306 := n3_; have BK290 := n4_; have BK303 := n5_; have HB := n6_; clear n0_ n1_ n2_ n3_ n4_ n5_ n6_; clear hb ho102; obtain ⟨Aox25i0, cox25i0, eox25i0⟩ := Kd.R_slice HO306.out; subst eox25i0) | ((with_reducible refine gate_callee (f := 25) rfl ?_); refine goesL_ (some 26) rfl rfl Try.func25 (by kernel_rfl) rfl #[.agg #[.int .i64 0, .int .i64 0, .slice Aox11i0 y287.length cox11i0, .int .i64 0], .int .i64 2, .slice Aox25i0 y304.length cox25i0] rfl (by (try simp only [List.map_toArray, List.map_cons, List.map_nil]); first | done | rfl | (simp only [List.length_drop, List.length_take]; rfl)) ?_; (with_reducible refine (entries_Advance.calls k 0 0 _ _ y287 0 2 _ _ y304 t307 t308 t309 t312 t313 _ ?side1 ?side2 ?side3 ?side4 A2.out).mono ?_); (case side1 => repeat (first | exact (Kd.R_reads' HO289.out).2.2 | (with_reducible refine Kd.C_alloc ?_ _) | (with_reducible refine Kd.C_drewN ?_ _) | (with_reducible refine Kd.C_drew ?_))); (case side2 => exact (Kd.R_reads' HO289.out).2.1); (case side3 => repeat (first | exact (Kd.R_reads' HO306.out).2.2 | (with_reducible refine Kd.C_alloc ?_ _) | (with_reducible refine Kd.C_drewN ?_ _) | (with_reducible refine Kd.C_drew ?_))); (case side4 => exact (Kd.R_reads' HO306.out).2.1); rintro e wx26i0 ⟨v310, rfl, ho0, hb⟩; refine ⟨_, rfl, ?_⟩; have n0_ := Aside0.mk (Kd.R_elder' (by (with_reducible repeat (first | apply Kd.R_alloc | apply Kd.R_drewN | apply Kd.R_drew)); exact HO289.out) (Kd.R_base ho0) hb); have n1_ := Aside0.mk (Kd.R_elder' (by (with_reducible repeat (first | apply Kd.R_alloc | apply Kd.R_drewN | apply Kd.R_drew)); exact HO293.out) (Kd.R_base ho0) hb); have n2_ := Aside0.mk (Kd.R_elder' (by (with_reducible repeat (first | apply Kd.R_alloc | apply Kd.R_drewN | apply Kd.R_drew)); exact HO298.out) (Kd.R_base ho0) hb); have n3_ := Aside0.mk (Kd.R_below (by (with_reducible repeat (first | apply Kd.R_alloc | apply Kd.R_drewN | apply Kd.R_drew)); exact HO306.out) hb); have n4_ := Aside0.mk (Kd.R_lower (Kd.R_new' (Kd.R_new' (Kd.R_new' ho0 (Kd.R_lt (by (with_reducible repeat (first | apply Kd.R_alloc | apply Kd.R_drewN | apply Kd.R_drew)); exact HO289.out))) (Kd.R_lt (by (with_reducible repeat (first | apply Kd.R_alloc | apply Kd.R_drewN | apply Kd.R_drew)); exact HO293.out))) (Kd.R_lt (by (with_reducible repeat (first | apply Kd.R_alloc | apply Kd.R_drewN | apply Kd.R_drew)); exact HO298.out))) (below_size (by repeat (first | (with_reducible first | exact HB.out | apply below_alloc | apply pw_below_drewN | apply below_drew1 | refine below_set ?_ GE290.out | refine below_set ?_ GE303.out) | exact HB.out)))); have n5_ := Aside0.mk (blk_below (g := gb290) (o := .cells #[.int .i64 0, .int .i64 0, .slice Aox11i0 y287.length cox11i0, .int .i64 0] 26 (0, 0)) (by (with_reducible repeat (first | refine blk_drewN ?_ _ | refine blk_drew ?_ | refine blk_alloc ?_ _)); exact BK290.out) hb); have n6_ := Aside0.mk (blk_below (g := gb303) (o := .cells #[.int .i64 t294, .int .i64 t295, .slice Aox2i0 t296.length cox2i0, .int .i64 t299] 26 (0, 0)) (by (with_reducible repeat (first | refine blk_drewN ?_ _ | refine blk_drew ?_ | refine blk_alloc ?_ _)); exact BK303.out) hb); have n7_ := Aside0.mk (below_step (by repeat (first | (with_reducible first | exact HB.out | apply below_alloc | apply pw_below_drewN | apply below_drew1 | refine below_set ?_ GE290.out | refine below_set ?_ GE303.out) | exact HB.out)) hb); clear HO289; clear HO293; clear HO298; clear HO306; clear BK290; clear BK303; clear HB; have HO289 := n0_; have HO293 := n1_; have HO298 := n2_; have HO306 := n3_; have HO311 := n4_; have BK290 := n5_; have BK303 := n6_; have HB := n7_; clear n0_ n1_ n2_ n3_ n4_ n5_ n6_ n7_; (try clear hb); (try clear hb2); (try clear hk); (try clear hi); (try clear ho0)) | ((with_reducible refine gate_dst (N := 6) rfl ?_); (try (refine gate_guard (by rfl) ?_; dsimp only)); refine box_event ?hg (N := 6) ?hd (cs := #[.int .i64 0, .int .i64 0, .slice none 0 0, .int .i64 0]) (t := 26) ?hr ?_; (case hd => rfl); (case hg => rfl); (case hr => first | (go_simp; done) | (go_simp; rfl)); intro gb314 hg wx6i0 hbox hb; have n0_ := Aside0.mk (Kd.R_below (by (with_reducible repeat (first | apply Kd.R_alloc | apply Kd.R_drewN | apply Kd.R_drew)); exact HO289.out) hb); have n1_ := Aside0.mk (Kd.R_below (by (with_reducible repeat (first | apply Kd.R_alloc | apply Kd.R_drewN | apply Kd.R_drew)); exact HO293.out) hb); have n2_ := Aside0.mk (Kd.R_below (by (with_reducible repeat (first | apply Kd.R_alloc | apply Kd.R_drewN | apply Kd.R_drew)); exact HO298.out) hb); have n3_ := Aside0.mk (Kd.R_below (by (with_reducible repeat (first | apply Kd.R_alloc | apply Kd.R_drewN | apply Kd.R_drew)); exact HO306.out) hb); have n4_ := Aside0.mk (Kd.R_below (by (with_reducible repeat (first | apply Kd.R_alloc | apply Kd.R_drewN | apply Kd.R_drew)); exact HO311.out) hb); have n5_ := Aside0.mk (blk_below (g := gb290) (o := .cells #[.int .i64 0, .int .i64 0, .slice Aox11i0 y287.length cox11i0, .int .i64 0] 26 (0, 0)) (by (with_reducible repeat (first | refine blk_drewN ?_ _ | refine blk_drew ?_ | refine blk_alloc ?_ _)); exact BK290.out) hb); have n6_ := Aside0.mk (blk_below (g := gb303) (o := .cells #[.int .i64 t294, .int .i64 t295, .slice Aox2i0 t296.length cox2i0, .int .i64 t299] 26 (0, 0)) (by (with_reducible repeat (first | refine blk_drewN ?_ _ | refine blk_drew ?_ | refine blk_alloc ?_ _)); exact BK303.out) hb); have n7_ := Aside0.mk (below_step (by repeat (first | (with_reducible first | exact HB.out | apply below_alloc | apply pw_below_drewN | apply below_drew1 | refine below_set ?_ GE290.out | refine below_set ?_ GE303.out) | exact HB.out)) hb); have n8_ := Aside0.mk (hbox); have n9_ := Aside0.mk ((by rw [hg]; exact (below_size (by repeat (first | (with_reducible first | exact HB.out | apply below_alloc | apply pw_below_drewN | apply below_drew1 | refine below_set ?_ GE290.out | refine below_set ?_ GE303.out) | exact HB.out))) : w.heap.size ≤ gb314)); have n10_ := Aside0.mk ((by rw [hg]; exact (below_size (by repeat (first | (with_reducible first | exact HB.out | apply below_alloc | apply pw_below_drewN | apply below_drew1 | refine below_set ?_ GE290.out | refine below_set ?_ GE303.out) | exact HB.out))) : w.heap.size ≤ gb314)); have n11_ := Aside0.mk ((by rw [hg]; exact Nat.ne_of_lt (blk_lt (g := gb290) (o := .cells #[.int .i64 0, .int .i64 0, .slice Aox11i0 y287.length cox11i0, .int .i64 0] 26 (0, 0)) (by (with_reducible repeat (first | refine blk_drewN ?_ _ | refine blk_drew ?_ | refine blk_alloc ?_ _)); exact BK290.out)) : gb290 ≠ gb314)); have n12_ := Aside0.mk ((by rw [hg]; exact Nat.ne_of_gt (blk_lt (g := gb290) (o := .cells #[.int .i64 0, .int .i64 0, .slice Aox11i0 y287.length cox11i0, .int .i64 0] 26 (0, 0)) (by (with_reducible repeat (first | refine blk_drewN ?_ _ | refine blk_drew ?_ | refine blk_alloc ?_ _)); exact BK290.out)) : gb314 ≠ gb290)); have n13_ := Aside0.mk ((by rw [hg]; exact Nat.ne_of_lt (blk_lt (g := gb303) (o := .cells #[.int .i64 t294, .int .i64 t295, .slice Aox2i0 t296.length cox2i0, .int .i64 t299] 26 (0, 0)) (by (with_reducible repeat (first | refine blk_drewN ?_ _ | refine blk_drew ?_ | refine blk_alloc ?_ _)); exact BK303.out)) : gb303 ≠ gb314)); have n14_ := Aside0.mk ((by rw [hg]; exact Nat.ne_of_gt (blk_lt (g := gb303) (o := .cells #[.int .i64 t294, .int .i64 t295, .slice Aox2i0 t296.length cox2i0, .int .i64 t299] 26 (0, 0)) (by (with_reducible repeat (first | refine blk_drewN ?_ _ | refine blk_drew ?_ | refine blk_alloc ?_ _)); exact BK303.out)) : gb314 ≠ gb303)); clear HO289; clear HO293; clear HO298; clear HO306; clear HO311; clear BK290; clear BK303; clear HB; have HO289 := n0_; have HO293 := n1_; have HO298 := n2_; have HO306 := n3_; have HO311 := n4_; have BK290 := n5_; have BK303 := n6_; have HB := n7_; have BK314 := n8_; have GW314 := n9_; have GE314 := n10_; have NB290_314 := n11_; have NB314_290 := n12_; have NB303_314 := n13_; have NB314_303 := n14_; clear n0_ n1_ n2_ n3_ n4_ n5_ n6_ n7_ n8_ n9_ n10_ n11_ n12_ n13_ n14_; clear hb hbox hg; have hnbx6b314_290 := NB314_290.out; have hncx6b290_314 := NB290_314.out; have hnbx6b314_303 := NB314_303.out; have hncx6b303_314 := NB303_314.out; have hczx6b314_0 : wx6i0.cell? ⟨gb314, 0, none⟩ = some (.int .i64 0) := (blk_cell BK314.out 0).trans rfl; have hczx6b314_1 : wx6i0.cell? ⟨gb314, 1, none⟩ = some (.int .i64 0) := (blk_cell BK314.out 1).trans rfl; have hczx6b314_2 : wx6i0.cell? ⟨gb314, 2, none⟩ = some (.slice none 0 0) := (blk_cell BK314.out 2).trans rfl; have hczx6b314_3 : wx6i0.cell? ⟨gb314, 3, none⟩ = some (.int .i64 0) := (blk_cell BK314.out 3).trans rfl; have hfzx6b314_0 := blk_frozen BK314.out 0; have hfzx6b314_1 := blk_frozen BK314.out 1; have hfzx6b314_2 := blk_frozen BK314.out 2; have hfzx6b314_3 := blk_frozen BK314.out 3; obtain ⟨Aox6i0, cox6i0, eox6i0⟩ := Kd.R_slice HO311.out; subst eox6i0; have hczx6b303_0 : wx6i0.cell? ⟨gb303, 0, none⟩ = some (.int .i64 t294) := (blk_cell BK303.out 0).trans rfl; have hczx6b303_1 : wx6i0.cell? ⟨gb303, 1, none⟩ = some (.int .i64 t295) := (blk_cell BK303.out 1).trans rfl; have hczx6b303_2 : wx6i0.cell? ⟨gb303, 2, none⟩ = some (.slice Aox2i0 t296.length cox2i0) := (blk_cell BK303.out 2).trans rfl; have hczx6b303_3 : wx6i0.cell? ⟨gb303, 3, none⟩ = some (.int .i64 t299) := (blk_cell BK303.out 3).trans rfl; have hfzx6b303_0 := blk_frozen BK303.out 0; have hfzx6b303_1 := blk_frozen BK303.out 1; have hfzx6b303_2 := blk_frozen BK303.out 2; have hfzx6b303_3 := blk_frozen BK303.out 3; have p315 : 0 ≤ (2 : Int) := (by omega); have q315 : 2 < (t296.length : Int) := of_decide_eq_true (by first | (with_reducible assumption) | assumption); obtain ⟨ad315, e315, hx315_0, hx315_1, hx315_2⟩ := at_T33 (Kd.R_reads' HO298.out).2.2 2 p315 q315; cases e315; (try simp only [show (2 : Int).toNat = 2 from rfl, Nat.reduceMul, Nat.reduceEqDiff, Go.Addr.add, ↓reduceIte] at hx315_0); (try simp only [show (2 : Int).toNat = 2 from rfl, Nat.reduceMul, Nat.reduceEqDiff, Go.Addr.add, ↓reduceIte] at hx315_1); (try simp only [show (2 : Int).toNat = 2 from rfl, Nat.reduceMul, Nat.reduceEqDiff, Go.Addr.add, ↓reduceIte] at hx315_2); have qi315 : (2 < t296.length) = True := eq_true (by omega); (try rw [show ((2 : Int)).toNat = 2 from rfl] at hx315_0); (try rw [show 2 * 3 = 6 from rfl] at hx315_0); (try rw [show ((2 : Int)).toNat = 2 from rfl] at hx315_1); (try rw [show 2 * 3 = 6 from rfl] at hx315_1); (try rw [show ((2 : Int)).toNat = 2 from rfl] at hx315_2); (try rw [show 2 * 3 = 6 from rfl] at hx315_2); have hn315_0 : ad315.block ≠ gb314 := Kd.own_blk (Kd.R_ne HO298.out BK314.out (by decide)); have hn315_1 : ad315.block ≠ gb314 := Kd.own_blk (Kd.R_ne HO298.out BK314.out (by decide)); have hn315_2 : ad315.block ≠ gb314 := Kd.own_blk (Kd.R_ne HO298.out BK314.out (by decide)); have hn315_3 : ad315.block ≠ gb314 := Kd.own_blk (Kd.R_ne HO298.out BK314.out (by decide)); replace hx315_0 := (cell_far (p := ⟨gb314, 0, none⟩) (by first | (rw [add_block]; exact hn315_0) | (show (Addr.add _ _).block ≠ _; rw [add_block]; exact hn315_0) | exact hn315_0) (.int .i64 t307)).trans hx315_0; replace hx315_1 := (cell_far (p := ⟨gb314, 0, none⟩) (by first | (rw [add_block]; exact hn315_0) | (show (Addr.add _ _).block ≠ _; rw [add_block]; exact hn315_0) | exact hn315_0) (.int .i64 t307)).trans hx315_1; replace hx315_2 := (cell_far (p := ⟨gb314, 0, none⟩) (by first | (rw [add_block]; exact hn315_0) | (show (Addr.add _ _).block ≠ _; rw [add_block]; exact hn315_0) | exact hn315_0) (.int .i64 t307)).trans hx315_2; replace hx315_0 := (cell_far (p := ⟨gb314, 1, none⟩) (by first | (rw [add_block]; exact hn315_1) | (show (Addr.add _ _).block ≠ _; rw [add_block]; exact hn315_1) | exact hn315_1) (.int .i64 t308)).trans hx315_0; replace hx315_1 := (cell_far (p := ⟨gb314, 1, none⟩) (by first | (rw [add_block]; exact hn315_1) | (show (Addr.add _ _).block ≠ _; rw [add_block]; exact hn315_1) | exact hn315_1) (.int .i64 t308)).trans hx315_1; replace hx315_2 := (cell_far (p := ⟨gb314, 1, none⟩) (by first | (rw [add_block]; exact hn315_1) | (show (Addr.add _ _).block ≠ _; rw [add_block]; exact hn315_1) | exact hn315_1) (.int .i64 t308)).trans hx315_2; replace hx315_0 := (cell_far (p := ⟨gb314, 2, none⟩) (by first | (rw [add_block]; exact hn315_2) | (show (Addr.add _ _).block ≠ _; rw [add_block]; exact hn315_2) | exact hn315_2) (.slice Aox6i0 t309.length cox6i0)).trans hx315_0; replace hx315_1 := (cell_far (p := ⟨gb314, 2, none⟩) (by first | (rw [add_block]; exact hn315_2) | (show (Addr.add _ _).block ≠ _; rw [add_block]; exact hn315_2) | exact hn315_2) (.slice Aox6i0 t309.length cox6i0)).trans hx315_1; replace hx315_2 := (cell_far (p := ⟨gb314, 2, none⟩) (by first | (rw [add_block]; exact hn315_2) | (show (Addr.add _ _).block ≠ _; rw [add_block]; exact hn315_2) | exact hn315_2) (.slice Aox6i0 t309.length cox6i0)).trans hx315_2; replace hx315_0 := (cell_far (p := ⟨gb314, 3, none⟩) (by first | (rw [add_block]; exact hn315_3) | (show (Addr.add _ _).block ≠ _; rw [add_block]; exact hn315_3) | exact hn315_3) (.int .i64 t312)).trans hx315_0; replace hx315_1 := (cell_far (p := ⟨gb314, 3, none⟩) (by first | (rw [add_block]; exact hn315_3) | (show (Addr.add _ _).block ≠ _; rw [add_block]; exact hn315_3) | exact hn315_3) (.int .i64 t312)).trans hx315_1; replace hx315_2 := (cell_far (p := ⟨gb314, 3, none⟩) (by first | (rw [add_block]; exact hn315_3) | (show (Addr.add _ _).block ≠ _; rw [add_block]; exact hn315_3) | exact hn315_3) (.int .i64 t312)).trans hx315_2; clear hn315_0; clear hn315_1; clear hn315_2; clear hn315_3; replace p315 := eq_true p315; replace q315 := eq_true q315; (try have hczx6b290_0 : wx6i0.cell? ⟨gb290, 0, none⟩ = some (.int .i64 0) := (blk_cell BK290.out 0).trans rfl); (try have hczx6b290_1 : wx6i0.cell? ⟨gb290, 1, none⟩ = some (.int .i64 0) := (blk_cell BK290.out 1).trans rfl); (try have hczx6b290_2 : wx6i0.cell? ⟨gb290, 2, none⟩ = some (.slice Aox11i0 y287.length cox11i0) := (blk_cell BK290.out 2).trans rfl); (try have hczx6b290_3 : wx6i0.cell? ⟨gb290, 3, none⟩ = some (.int .i64 0) := (blk_cell BK290.out 3).trans rfl); (try have hfzx6b290_0 := blk_frozen BK290.out 0); (try have hfzx6b290_1 := blk_frozen BK290.out 1); (try have hfzx6b290_2 := blk_frozen BK290.out 2); (try have hfzx6b290_3 := blk_frozen BK290.out 3)) | (go_at_call 32; (with_reducible refine (entries_Last.calls k 0 0 _ _ y287 0 t316 t317 _ ?side1 ?side2 A12.out).mono ?_); (case side1 => refine (Kd.R_reads' (e := 33) (base := w.heap.size) (ok := fun k_ => (((True ∧ some k_ ≠ (.slice Aox17i0 y291.length cox17i0 : Value).ownBlock) ∧ some k_ ≠ (.slice (some ad315) t296.length cox2i0 : Value).ownBlock) ∧ some k_ ≠ (.slice Aox6i0 t309.length cox6i0 : Value).ownBlock)) (n := y287.length) (c := cox11i0) ?_).2.2; exact (by (with_reducible repeat (first | apply Kd.R_alloc | apply Kd.R_drewN | apply Kd.R_drew)); exact (Kd.R_mono (Kd.R_far (p := ⟨gb314, 3, none⟩) (Kd.R_far (p := ⟨gb314, 2, none⟩) (Kd.R_far (p := ⟨gb314, 1, none⟩) (Kd.R_far (p := ⟨gb314, 0, none⟩) (Kd.R_types HO289.out BK314.out (by decide)) (fun _ hk => hk.2) (.int .i64 t307)) (fun _ hk => hk.2) (.int .i64 t308)) (fun _ hk => hk.2) (.slice Aox6i0 t309.length cox6i0)) (fun _ hk => hk.2) (.int .i64 t312)) (fun _ h_ => h_.1)))); (case side2 => exact (Kd.R_reads' HO289.out).2.1); rintro e wyi0 ⟨rfl, hb⟩; have n0_ := Aside0.mk (Kd.R_below (by (with_reducible repeat (first | apply Kd.R_alloc | apply Kd.R_drewN | apply Kd.R_drew)); exact (Kd.R_mono (Kd.R_far (p := ⟨gb314, 3, none⟩) (Kd.R_far (p := ⟨gb314, 2, none⟩) (Kd.R_far (p := ⟨gb314, 1, none⟩) (Kd.R_far (p := ⟨gb314, 0, none⟩) (Kd.R_types HO289.out BK314.out (by decide)) (fun _ hk => hk.2) (.int .i64 t307)) (fun _ hk => hk.2) (.int .i64 t308)) (fun _ hk => hk.2) (.slice Aox6i0 t309.length cox6i0)) (fun _ hk => hk.2) (.int .i64 t312)) (fun _ h_ => h_.1))) hb); have n1_ := Aside0.mk (Kd.R_below (by (with_reducible repeat (first | apply Kd.R_alloc | apply Kd.R_drewN | apply Kd.R_drew)); exact (Kd.R_mono (Kd.R_far (p := ⟨gb314, 3, none⟩) (Kd.R_far (p := ⟨gb314, 2, none⟩) (Kd.R_far (p := ⟨gb314, 1, none⟩) (Kd.R_far (p := ⟨gb314, 0, none⟩) (Kd.R_types HO293.out BK314.out (by decide)) (fun _ hk => hk.2) (.int .i64 t307)) (fun _ hk => hk.2) (.int .i64 t308)) (fun _ hk => hk.2) (.slice Aox6i0 t309.length cox6i0)) (fun _ hk => hk.2) (.int .i64 t312)) (fun _ h_ => h_.1))) hb); have n2_ := Aside0.mk (Kd.R_below (by (with_reducible repeat (first | apply Kd.R_alloc | apply Kd.R_drewN | apply Kd.R_drew)); exact (Kd.R_mono (Kd.R_far (p := ⟨gb314, 3, none⟩) (Kd.R_far (p := ⟨gb314, 2, none⟩) (Kd.R_far (p := ⟨gb314, 1, none⟩) (Kd.R_far (p := ⟨gb314, 0, none⟩) (Kd.R_types HO298.out BK314.out (by decide)) (fun _ hk => hk.2) (.int .i64 t307)) (fun _ hk => hk.2) (.int .i64 t308)) (fun _ hk => hk.2) (.slice Aox6i0 t309.length cox6i0)) (fun _ hk => hk.2) (.int .i64 t312)) (fun _ h_ => h_.1))) hb); have n3_ := Aside0.mk (Kd.R_below (by (with_reducible repeat (first | apply Kd.R_alloc | apply Kd.R_drewN | apply Kd.R_drew)); exact (Kd.R_mono (Kd.R_far (p := ⟨gb314, 3, none⟩) (Kd.R_far (p := ⟨gb314, 2, none⟩) (Kd.R_far (p := ⟨gb314, 1, none⟩) (Kd.R_far (p := ⟨gb314, 0, none⟩) (Kd.R_types HO306.out BK314.out (by decide)) (fun _ hk => hk.2) (.int .i64 t307)) (fun _ hk => hk.2) (.int .i64 t308)) (fun _ hk => hk.2) (.slice Aox6i0 t309.length cox6i0)) (fun _ hk => hk.2) (.int .i64 t312)) (fun _ h_ => h_.1))) hb); have n4_ := Aside0.mk (Kd.R_below (by (with_reducible repeat (first | apply Kd.R_alloc | apply Kd.R_drewN | apply Kd.R_drew)); exact (Kd.R_mono (Kd.R_far (p := ⟨gb314, 3, none⟩) (Kd.R_far (p := ⟨gb314, 2, none⟩) (Kd.R_far (p := ⟨gb314, 1, none⟩) (Kd.R_far (p := ⟨gb314, 0, none⟩) (Kd.R_types HO311.out BK314.out (by decide)) (fun _ hk => hk.2) (.int .i64 t307)) (fun _ hk => hk.2) (.int .i64 t308)) (fun _ hk => hk.2) (.slice Aox6i0 t309.length cox6i0)) (fun _ hk => hk.2) (.int .i64 t312)) (fun _ h_ => h_.1))) hb); have n5_ := Aside0.mk (blk_below (g := gb290) (o := .cells #[.int .i64 0, .int .i64 0, .slice Aox11i0 y287.length cox11i0, .int .i64 0] 26 (0, 0)) (by (with_reducible repeat (first | refine blk_drewN ?_ _ | refine blk_drew ?_ | refine blk_alloc ?_ _)); refine blk_far ?_ NB290_314.out _; (with_reducible repeat (first | refine blk_drewN ?_ _ | refine blk_drew ?_ | refine blk_alloc ?_ _)); refine blk_far ?_ NB290_314.out _; (with_reducible repeat (first | refine blk_drewN ?_ _ | refine blk_drew ?_ | refine blk_alloc ?_ _)); refine blk_far ?_ NB290_314.out _; (with_reducible repeat (first | refine blk_drewN ?_ _ | refine blk_drew ?_ | refine blk_alloc ?_ _)); refine blk_far ?_ NB290_314.out _; (with_reducible repeat (first | refine blk_drewN ?_ _ | refine blk_drew ?_ | refine blk_alloc ?_ _)); exact BK290.out) hb); have n6_ := Aside0.mk (blk_below (g := gb303) (o := .cells #[.int .i64 t294, .int .i64 t295, .slice (some ad315) t296.length cox2i0, .int .i64 t299] 26 (0, 0)) (by (with_reducible repeat (first | refine blk_drewN ?_ _ | refine blk_drew ?_ | refine blk_alloc ?_ _)); refine blk_far ?_ NB303_314.out _; (with_reducible repeat (first | refine blk_drewN ?_ _ | refine blk_drew ?_ | refine blk_alloc ?_ _)); refine blk_far ?_ NB303_314.out _; (with_reducible repeat (first | refine blk_drewN ?_ _ | refine blk_drew ?_ | refine blk_alloc ?_ _)); refine blk_far ?_ NB303_314.out _; (with_reducible repeat (first | refine blk_drewN ?_ _ | refine blk_drew ?_ | refine blk_alloc ?_ _)); refine blk_far ?_ NB303_314.out _; (with_reducible repeat (first | refine blk_drewN ?_ _ | refine blk_drew ?_ | refine blk_alloc ?_ _)); exact BK303.out) hb); have n7_ := Aside0.mk (blk_below (g := gb314) (o := .cells #[.int .i64 t307, .int .i64 t308, .slice Aox6i0 t309.length cox6i0, .int .i64 t312] 26 (0, 0)) (by (with_reducible repeat (first | refine blk_drewN ?_ _ | refine blk_drew ?_ | refine blk_alloc ?_ _)); refine blk_put (cs := #[.int .i64 t307, .int .i64 t308, .slice Aox6i0 t309.length cox6i0, .int .i64 0]) ?_ 3 _ rfl; (with_reducible repeat (first | refine blk_drewN ?_ _ | refine blk_drew ?_ | refine blk_alloc ?_ _)); refine blk_put (cs := #[.int .i64 t307, .int .i64 t308, .slice none 0 0, .int .i64 0]) ?_ 2 _ rfl; (with_reducible repeat (first | refine blk_drewN ?_ _ | refine blk_drew ?_ | refine blk_alloc ?_ _)); refine blk_put (cs := #[.int .i64 t307, .int .i64 0, .slice none 0 0, .int .i64 0]) ?_ 1 _ rfl; (with_reducible repeat (first | refine blk_drewN ?_ _ | refine blk_drew ?_ | refine blk_alloc ?_ _)); refine blk_put (cs := #[.int .i64 0, .int .i64 0, .slice none 0 0, .int .i64 0]) ?_ 0 _ rfl; (with_reducible repeat (first | refine blk_drewN ?_ _ | refine blk_drew ?_ | refine blk_alloc ?_ _)); exact BK314.out) hb); have n8_ := Aside0.mk (below_step (by repeat (first | (with_reducible first | exact HB.out | apply below_alloc | apply pw_below_drewN | apply below_drew1 | refine below_set ?_ GE290.out | refine below_set ?_ GE303.out | refine below_set ?_ GE314.out) | exact HB.out)) hb); clear HO289; clear HO293; clear HO298; clear HO306; clear HO311; clear BK290; clear BK303; clear BK314; clear HB; have HO289 := n0_; have HO293 := n1_; have HO298 := n2_; have HO306 := n3_; have HO311 := n4_; have BK290 := n5_; have BK303 := n6_; have BK314 := n7_; have HB := n8_; clear n0_ n1_ n2_ n3_ n4_ n5_ n6_ n7_ n8_; (try clear hb); (try clear hb2); (try clear hk); (try clear hi)))
      go_ret
      exact ⟨by first | rfl | (simp [errW_none, errW_some] <;> rfl) | (simp [*, errW_none, errW_some] <;> rfl), by repeat (first | (with_reducible first | exact HB.out | apply below_alloc | apply pw_below_drewN | apply below_drew1 | refine below_set ?_ GE290.out | refine below_set ?_ GE303.out | refine below_set ?_ GE314.out) | exact HB.out)⟩
  focus
    exact absurd H (by simp)
  iterate 5
    focus
      go_enter Try.func24, Try.ntmps24
      go_wp2_with (first | ((with_reducible refine gate_dst (N := 11) rfl ?_); (try (refine gate_guard (by rfl) ?_; dsimp only)); refine Kd.R_lit k33 _ 33 ?hg (N := 11) ?hd (xs := ([(⟨1, 1, (⟨#[]⟩ : ByteArray)⟩ : S33), (⟨1, 2, (⟨#[97]⟩ : ByteArray)⟩ : S33), (⟨2, 1, (⟨#[]⟩ : ByteArray)⟩ : S33)] : List (S33))) (inner := [.int .i64 1, .int .i64 1, .string (⟨#[]⟩ : ByteArray), .int .i64 1, .int .i64 2, .string (⟨#[97]⟩ : ByteArray), .int .i64 2, .int .i64 1, .string (⟨#[]⟩ : ByteArray)]) (ok := fun _ => True) (okp := fun _ => True) ?hr ?hp (fun _ hk => hk) trivial (Below.refl _ _) (Nat.le_refl _) (by simp) ?_; (case hd => rfl); (case hg => rfl); (case hr => first | (go_simp; done) | (go_simp; rfl)); (case hp => exact (Reps.c3 (show Kd.M k33 _ _ _ (⟨1, 1, (⟨#[]⟩ : ByteArray)⟩ : S33) [.int .i64 1, .int .i64 1, .string (⟨#[]⟩ : ByteArray)] from (k33_mkM _ _ _ (⟨1, 1, (⟨#[]⟩ : ByteArray)⟩ : S33) )) (Reps.c3 (show Kd.M k33 _ _ _ (⟨1, 2, (⟨#[97]⟩ : ByteArray)⟩ : S33) [.int .i64 1, .int .i64 2, .string (⟨#[97]⟩ : ByteArray)] from (k33_mkM _ _ _ (⟨1, 2, (⟨#[97]⟩ : ByteArray)⟩ : S33) )) (Reps.c3 (show Kd.M k33 _ _ _ (⟨2, 1, (⟨#[]⟩ : ByteArray)⟩ : S33) [.int .i64 2, .int .i64 1, .string (⟨#[]⟩ : ByteArray)] from (k33_mkM _ _ _ (⟨2, 1, (⟨#[]⟩ : ByteArray)⟩ : S33) )) (Reps.none _ _))))); intro v288 wx11i0 ho112 hb hg_ hnew_; clear hg_ hnew_; (first | rw [← Ny287.out] at ho112 | (simp only [Int.reduceToNat] at ho112; rw [← Ny287.out] at ho112)); have n0_ := Aside0.mk (Kd.R_lower ho112 (below_size (by repeat (first | (with_reducible first | exact HB.out | apply below_alloc | apply pw_below_drewN | apply below_drew1) | exact HB.out)))); have n1_ := Aside0.mk (below_step (by repeat (first | (with_reducible first | exact HB.out | apply below_alloc | apply pw_below_drewN | apply below_drew1) | exact HB.out)) hb); clear HB; have HO289 := n0_; have HB := n1_; clear n0_ n1_; clear hb ho112; obtain ⟨Aox11i0, cox11i0, eox11i0⟩ := Kd.R_slice HO289.out; subst eox11i0) | ((with_reducible refine gate_dst (N := 11) rfl ?_); (try (refine gate_guard (by rfl) ?_; dsimp only)); refine Kd.R_lit k33 _ 33 ?hg (N := 11) ?hd (xs := ([(⟨1, 1, (⟨#[]⟩ : ByteArray)⟩ : S33), (⟨1, 2, (⟨#[97]⟩ : ByteArray)⟩ : S33), (⟨2, 1, (⟨#[]⟩ : ByteArray)⟩ : S33)] : List (S33))) (inner := [.int .i64 1, .int .i64 1, .string (⟨#[]⟩ : ByteArray), .int .i64 1, .int .i64 2, .string (⟨#[97]⟩ : ByteArray), .int .i64 2, .int .i64 1, .string (⟨#[]⟩ : ByteArray)]) (ok := fun _ => True) (okp := fun _ => True) ?hr ?hp (fun _ hk => hk) trivial (Below.refl _ _) (Nat.le_refl _) (by simp) ?_; (case hd => rfl); (case hg => rfl); (case hr => first | (go_simp; done) | (go_simp; rfl)); (case hp => exact (Reps.c3 (show Kd.M k33 _ _ _ (⟨1, 1, (⟨#[]⟩ : ByteArray)⟩ : S33) [.int .i64 1, .int .i64 1, .string (⟨#[]⟩ : ByteArray)] from (k33_mkM _ _ _ (⟨1, 1, (⟨#[]⟩ : ByteArray)⟩ : S33) )) (Reps.c3 (show Kd.M k33 _ _ _ (⟨1, 2, (⟨#[97]⟩ : ByteArray)⟩ : S33) [.int .i64 1, .int .i64 2, .string (⟨#[97]⟩ : ByteArray)] from (k33_mkM _ _ _ (⟨1, 2, (⟨#[97]⟩ : ByteArray)⟩ : S33) )) (Reps.c3 (show Kd.M k33 _ _ _ (⟨2, 1, (⟨#[]⟩ : ByteArray)⟩ : S33) [.int .i64 2, .int .i64 1, .string (⟨#[]⟩ : ByteArray)] from (k33_mkM _ _ _ (⟨2, 1, (⟨#[]⟩ : ByteArray)⟩ : S33) )) (Reps.none _ _))))); intro v288 wx11i0 ho136 hb hg_ hnew_; clear hg_ hnew_; (first | rw [← Ny287.out] at ho136 | (simp only [Int.reduceToNat] at ho136; rw [← Ny287.out] at ho136)); have n0_ := Aside0.mk (Kd.R_lower ho136 (below_size (by repeat (first | (with_reducible first | exact HB.out | apply below_alloc | apply pw_below_drewN | apply below_drew1) | exact HB.out)))); have n1_ := Aside0.mk (below_step (by repeat (first | (with_reducible first | exact HB.out | apply below_alloc | apply pw_below_drewN | apply below_drew1) | exact HB.out)) hb); clear HB; have HO289 := n0_; have HB := n1_; clear n0_ n1_; clear hb ho136; obtain ⟨Aox11i0, cox11i0, eox11i0⟩ := Kd.R_slice HO289.out; subst eox11i0) | ((with_reducible refine gate_dst (N := 11) rfl ?_); (try (refine gate_guard (by rfl) ?_; dsimp only)); refine Kd.R_lit k33 _ 33 ?hg (N := 11) ?hd (xs := ([(⟨1, 1, (⟨#[]⟩ : ByteArray)⟩ : S33), (⟨1, 2, (⟨#[97]⟩ : ByteArray)⟩ : S33), (⟨2, 1, (⟨#[]⟩ : ByteArray)⟩ : S33)] : List (S33))) (inner := [.int .i64 1, .int .i64 1, .string (⟨#[]⟩ : ByteArray), .int .i64 1, .int .i64 2, .string (⟨#[97]⟩ : ByteArray), .int .i64 2, .int .i64 1, .string (⟨#[]⟩ : ByteArray)]) (ok := fun _ => True) (okp := fun _ => True) ?hr ?hp (fun _ hk => hk) trivial (Below.refl _ _) (Nat.le_refl _) (by simp) ?_; (case hd => rfl); (case hg => rfl); (case hr => first | (go_simp; done) | (go_simp; rfl)); (case hp => exact (Reps.c3 (show Kd.M k33 _ _ _ (⟨1, 1, (⟨#[]⟩ : ByteArray)⟩ : S33) [.int .i64 1, .int .i64 1, .string (⟨#[]⟩ : ByteArray)] from (k33_mkM _ _ _ (⟨1, 1, (⟨#[]⟩ : ByteArray)⟩ : S33) )) (Reps.c3 (show Kd.M k33 _ _ _ (⟨1, 2, (⟨#[97]⟩ : ByteArray)⟩ : S33) [.int .i64 1, .int .i64 2, .string (⟨#[97]⟩ : ByteArray)] from (k33_mkM _ _ _ (⟨1, 2, (⟨#[97]⟩ : ByteArray)⟩ : S33) )) (Reps.c3 (show Kd.M k33 _ _ _ (⟨2, 1, (⟨#[]⟩ : ByteArray)⟩ : S33) [.int .i64 2, .int .i64 1, .string (⟨#[]⟩ : ByteArray)] from (k33_mkM _ _ _ (⟨2, 1, (⟨#[]⟩ : ByteArray)⟩ : S33) )) (Reps.none _ _))))); intro v288 wx11i0 ho160 hb hg_ hnew_; clear hg_ hnew_; (first | rw [← Ny287.out] at ho160 | (simp only [Int.reduceToNat] at ho160; rw [← Ny287.out] at ho160)); have n0_ := Aside0.mk (Kd.R_lower ho160 (below_size (by repeat (first | (with_reducible first | exact HB.out | apply below_alloc | apply pw_below_drewN | apply below_drew1) | exact HB.out)))); have n1_ := Aside0.mk (below_step (by repeat (first | (with_reducible first | exact HB.out | apply below_alloc | apply pw_below_drewN | apply below_drew1) | exact HB.out)) hb); clear HB; have HO289 := n0_; have HB := n1_; clear n0_ n1_; clear hb ho160; obtain ⟨Aox11i0, cox11i0, eox11i0⟩ := Kd.R_slice HO289.out; subst eox11i0) | ((with_reducible refine gate_dst (N := 11) rfl ?_); (try (refine gate_guard (by rfl) ?_; dsimp only)); refine Kd.R_lit k33 _ 33 ?hg (N := 11) ?hd (xs := ([(⟨1, 1, (⟨#[]⟩ : ByteArray)⟩ : S33), (⟨1, 2, (⟨#[97]⟩ : ByteArray)⟩ : S33), (⟨2, 1, (⟨#[]⟩ : ByteArray)⟩ : S33)] : List (S33))) (inner := [.int .i64 1, .int .i64 1, .string (⟨#[]⟩ : ByteArray), .int .i64 1, .int .i64 2, .string (⟨#[97]⟩ : ByteArray), .int .i64 2, .int .i64 1, .string (⟨#[]⟩ : ByteArray)]) (ok := fun _ => True) (okp := fun _ => True) ?hr ?hp (fun _ hk => hk) trivial (Below.refl _ _) (Nat.le_refl _) (by simp) ?_; (case hd => rfl); (case hg => rfl); (case hr => first | (go_simp; done) | (go_simp; rfl)); (case hp => exact (Reps.c3 (show Kd.M k33 _ _ _ (⟨1, 1, (⟨#[]⟩ : ByteArray)⟩ : S33) [.int .i64 1, .int .i64 1, .string (⟨#[]⟩ : ByteArray)] from (k33_mkM _ _ _ (⟨1, 1, (⟨#[]⟩ : ByteArray)⟩ : S33) )) (Reps.c3 (show Kd.M k33 _ _ _ (⟨1, 2, (⟨#[97]⟩ : ByteArray)⟩ : S33) [.int .i64 1, .int .i64 2, .string (⟨#[97]⟩ : ByteArray)] from (k33_mkM _ _ _ (⟨1, 2, (⟨#[97]⟩ : ByteArray)⟩ : S33) )) (Reps.c3 (show Kd.M k33 _ _ _ (⟨2, 1, (⟨#[]⟩ : ByteArray)⟩ : S33) [.int .i64 2, .int .i64 1, .string (⟨#[]⟩ : ByteArray)] from (k33_mkM _ _ _ (⟨2, 1, (⟨#[]⟩ : ByteArray)⟩ : S33) )) (Reps.none _ _))))); intro v288 wx11i0 ho183 hb hg_ hnew_; clear hg_ hnew_; (first | rw [← Ny287.out] at ho183 | (simp only [Int.reduceToNat] at ho183; rw [← Ny287.out] at ho183)); have n0_ := Aside0.mk (Kd.R_lower ho183 (below_size (by repeat (first | (with_reducible first | exact HB.out | apply below_alloc | apply pw_below_drewN | apply below_drew1) | exact HB.out)))); have n1_ := Aside0.mk (below_step (by repeat (first | (with_reducible first | exact HB.out | apply below_alloc | apply pw_below_drewN | apply below_drew1) | exact HB.out)) hb); clear HB; have HO289 := n0_; have HB := n1_; clear n0_ n1_; clear hb ho183; obtain ⟨Aox11i0, cox11i0, eox11i0⟩ := Kd.R_slice HO289.out; subst eox11i0) | ((with_reducible refine gate_dst (N := 11) rfl ?_); (try (refine gate_guard (by rfl) ?_; dsimp only)); refine Kd.R_lit k33 _ 33 ?hg (N := 11) ?hd (xs := ([(⟨1, 1, (⟨#[]⟩ : ByteArray)⟩ : S33), (⟨1, 2, (⟨#[97]⟩ : ByteArray)⟩ : S33), (⟨2, 1, (⟨#[]⟩ : ByteArray)⟩ : S33)] : List (S33))) (inner := [.int .i64 1, .int .i64 1, .string (⟨#[]⟩ : ByteArray), .int .i64 1, .int .i64 2, .string (⟨#[97]⟩ : ByteArray), .int .i64 2, .int .i64 1, .string (⟨#[]⟩ : ByteArray)]) (ok := fun _ => True) (okp := fun _ => True) ?hr ?hp (fun _ hk => hk) trivial (Below.refl _ _) (Nat.le_refl _) (by simp) ?_; (case hd => rfl); (case hg => rfl); (case hr => first | (go_simp; done) | (go_simp; rfl)); (case hp => exact (Reps.c3 (show Kd.M k33 _ _ _ (⟨1, 1, (⟨#[]⟩ : ByteArray)⟩ : S33) [.int .i64 1, .int .i64 1, .string (⟨#[]⟩ : ByteArray)] from (k33_mkM _ _ _ (⟨1, 1, (⟨#[]⟩ : ByteArray)⟩ : S33) )) (Reps.c3 (show Kd.M k33 _ _ _ (⟨1, 2, (⟨#[97]⟩ : ByteArray)⟩ : S33) [.int .i64 1, .int .i64 2, .string (⟨#[97]⟩ : ByteArray)] from (k33_mkM _ _ _ (⟨1, 2, (⟨#[97]⟩ : ByteArray)⟩ : S33) )) (Reps.c3 (show Kd.M k33 _ _ _ (⟨2, 1, (⟨#[]⟩ : ByteArray)⟩ : S33) [.int .i64 2, .int .i64 1, .string (⟨#[]⟩ : ByteArray)] from (k33_mkM _ _ _ (⟨2, 1, (⟨#[]⟩ : ByteArray)⟩ : S33) )) (Reps.none _ _))))); intro v288 wx11i0 ho206 hb hg_ hnew_; clear hg_ hnew_; (first | rw [← Ny287.out] at ho206 | (simp only [Int.reduceToNat] at ho206; rw [← Ny287.out] at ho206)); have n0_ := Aside0.mk (Kd.R_lower ho206 (below_size (by repeat (first | (with_reducible first | exact HB.out | apply below_alloc | apply pw_below_drewN | apply below_drew1) | exact HB.out)))); have n1_ := Aside0.mk (below_step (by repeat (first | (with_reducible first | exact HB.out | apply below_alloc | apply pw_below_drewN | apply below_drew1) | exact HB.out)) hb); clear HB; have HO289 := n0_; have HB := n1_; clear n0_ n1_; clear hb ho206; obtain ⟨Aox11i0, cox11i0, eox11i0⟩ := Kd.R_slice HO289.out; subst eox11i0) | ((with_reducible refine gate_dst (N := 1) rfl ?_); (try (refine gate_guard (by rfl) ?_; dsimp only)); refine box_event ?hg (N := 1) ?hd (cs := #[.int .i64 0, .int .i64 0, .slice none 0 0, .int .i64 0]) (t := 26) ?hr ?_; (case hd => rfl); (case hg => rfl); (case hr => first | (go_simp; done) | (go_simp; rfl)); intro gb290 hg wx1i0 hbox hb; have n0_ := Aside0.mk (Kd.R_below (by (with_reducible repeat (first | apply Kd.R_alloc | apply Kd.R_drewN | apply Kd.R_drew)); exact HO289.out) hb); have n1_ := Aside0.mk (below_step (by repeat (first | (with_reducible first | exact HB.out | apply below_alloc | apply pw_below_drewN | apply below_drew1) | exact HB.out)) hb); have n2_ := Aside0.mk (hbox); have n3_ := Aside0.mk ((by rw [hg]; exact (below_size (by repeat (first | (with_reducible first | exact HB.out | apply below_alloc | apply pw_below_drewN | apply below_drew1) | exact HB.out))) : w.heap.size ≤ gb290)); have n4_ := Aside0.mk ((by rw [hg]; exact (below_size (by repeat (first | (with_reducible first | exact HB.out | apply below_alloc | apply pw_below_drewN | apply below_drew1) | exact HB.out))) : w.heap.size ≤ gb290)); clear HO289; clear HB; have HO289 := n0_; have HB := n1_; have BK290 := n2_; have GW290 := n3_; have GE290 := n4_; clear n0_ n1_ n2_ n3_ n4_; clear hb hbox hg; have hczx1b290_0 : wx1i0.cell? ⟨gb290, 0, none⟩ = some (.int .i64 0) := (blk_cell BK290.out 0).trans rfl; have hczx1b290_1 : wx1i0.cell? ⟨gb290, 1, none⟩ = some (.int .i64 0) := (blk_cell BK290.out 1).trans rfl; have hczx1b290_2 : wx1i0.cell? ⟨gb290, 2, none⟩ = some (.slice none 0 0) := (blk_cell BK290.out 2).trans rfl; have hczx1b290_3 : wx1i0.cell? ⟨gb290, 3, none⟩ = some (.int .i64 0) := (blk_cell BK290.out 3).trans rfl; have hfzx1b290_0 := blk_frozen BK290.out 0; have hfzx1b290_1 := blk_frozen BK290.out 1; have hfzx1b290_2 := blk_frozen BK290.out 2; have hfzx1b290_3 := blk_frozen BK290.out 3) | ((with_reducible refine gate_dst (N := 17) rfl ?_); (try (refine gate_guard (by rfl) ?_; dsimp only)); refine Kd.R_lit k33 _ 33 ?hg (N := 17) ?hd (xs := ([(⟨3, 1, (⟨#[]⟩ : ByteArray)⟩ : S33)] : List (S33))) (inner := [.int .i64 3, .int .i64 1, .string (⟨#[]⟩ : ByteArray)]) (ok := fun _ => True) (okp := fun _ => True) ?hr ?hp (fun _ hk => hk) trivial (Below.refl _ _) (Nat.le_refl _) (by simp) ?_; (case hd => rfl); (case hg => rfl); (case hr => first | (go_simp; done) | (go_simp; rfl)); (case hp => exact (Reps.c3 (show Kd.M k33 _ _ _ (⟨3, 1, (⟨#[]⟩ : ByteArray)⟩ : S33) [.int .i64 3, .int .i64 1, .string (⟨#[]⟩ : ByteArray)] from (k33_mkM _ _ _ (⟨3, 1, (⟨#[]⟩ : ByteArray)⟩ : S33) )) (Reps.none _ _))); intro v292 wx17i0 ho117 hb hg_ hnew_; clear hg_ hnew_; (first | rw [← Ny291.out] at ho117 | (simp only [Int.reduceToNat] at ho117; rw [← Ny291.out] at ho117)); have n0_ := Aside0.mk (Kd.R_elder' (by (with_reducible repeat (first | apply Kd.R_alloc | apply Kd.R_drewN | apply Kd.R_drew)); exact (Kd.R_mono (Kd.R_far (p := ⟨gb290, 3, none⟩) (Kd.R_far (p := ⟨gb290, 2, none⟩) (Kd.R_far (p := ⟨gb290, 1, none⟩) (Kd.R_far (p := ⟨gb290, 0, none⟩) (Kd.R_types HO289.out BK290.out (by decide)) (fun _ hk => hk.2) (.int .i64 0)) (fun _ hk => hk.2) (.int .i64 0)) (fun _ hk => hk.2) (.slice Aox11i0 y287.length cox11i0)) (fun _ hk => hk.2) (.int .i64 0)) (fun _ h_ => h_.1))) (Kd.R_base ho117) hb); have n1_ := Aside0.mk (Kd.R_lower (Kd.R_new' ho117 (Kd.R_lt (by (with_reducible repeat (first | apply Kd.R_alloc | apply Kd.R_drewN | apply Kd.R_drew)); exact (Kd.R_mono (Kd.R_far (p := ⟨gb290, 3, none⟩) (Kd.R_far (p := ⟨gb290, 2, none⟩) (Kd.R_far (p := ⟨gb290, 1, none⟩) (Kd.R_far (p := ⟨gb290, 0, none⟩) (Kd.R_types HO289.out BK290.out (by decide)) (fun _ hk => hk.2) (.int .i64 0)) (fun _ hk => hk.2) (.int .i64 0)) (fun _ hk => hk.2) (.slice Aox11i0 y287.length cox11i0)) (fun _ hk => hk.2) (.int .i64 0)) (fun _ h_ => h_.1))))) (below_size (by repeat (first | (with_reducible first | exact HB.out | apply below_alloc | apply pw_below_drewN | apply below_drew1 | refine below_set ?_ GE290.out) | exact HB.out)))); have n2_ := Aside0.mk (blk_below (g := gb290) (o := .cells #[.int .i64 0, .int .i64 0, .slice Aox11i0 y287.length cox11i0, .int .i64 0] 26 (0, 0)) (by (with_reducible repeat (first | refine blk_drewN ?_ _ | refine blk_drew ?_ | refine blk_alloc ?_ _)); refine blk_put (cs := #[.int .i64 0, .int .i64 0, .slice Aox11i0 y287.length cox11i0, .int .i64 0]) ?_ 3 _ rfl; (with_reducible repeat (first | refine blk_drewN ?_ _ | refine blk_drew ?_ | refine blk_alloc ?_ _)); refine blk_put (cs := #[.int .i64 0, .int .i64 0, .slice none 0 0, .int .i64 0]) ?_ 2 _ rfl; (with_reducible repeat (first | refine blk_drewN ?_ _ | refine blk_drew ?_ | refine blk_alloc ?_ _)); refine blk_put (cs := #[.int .i64 0, .int .i64 0, .slice none 0 0, .int .i64 0]) ?_ 1 _ rfl; (with_reducible repeat (first | refine blk_drewN ?_ _ | refine blk_drew ?_ | refine blk_alloc ?_ _)); refine blk_put (cs := #[.int .i64 0, .int .i64 0, .slice none 0 0, .int .i64 0]) ?_ 0 _ rfl; (with_reducible repeat (first | refine blk_drewN ?_ _ | refine blk_drew ?_ | refine blk_alloc ?_ _)); exact BK290.out) hb); have n3_ := Aside0.mk (below_step (by repeat (first | (with_reducible first | exact HB.out | apply below_alloc | apply pw_below_drewN | apply below_drew1 | refine below_set ?_ GE290.out) | exact HB.out)) hb); clear HO289; clear BK290; clear HB; have HO289 := n0_; have HO293 := n1_; have BK290 := n2_; have HB := n3_; clear n0_ n1_ n2_ n3_; clear hb ho117; obtain ⟨Aox17i0, cox17i0, eox17i0⟩ := Kd.R_slice HO293.out; subst eox17i0) | ((with_reducible refine gate_dst (N := 17) rfl ?_); (try (refine gate_guard (by rfl) ?_; dsimp only)); refine Kd.R_lit k33 _ 33 ?hg (N := 17) ?hd (xs := ([(⟨3, 1, (⟨#[]⟩ : ByteArray)⟩ : S33)] : List (S33))) (inner := [.int .i64 3, .int .i64 1, .string (⟨#[]⟩ : ByteArray)]) (ok := fun _ => True) (okp := fun _ => True) ?hr ?hp (fun _ hk => hk) trivial (Below.refl _ _) (Nat.le_refl _) (by simp) ?_; (case hd => rfl); (case hg => rfl); (case hr => first | (go_simp; done) | (go_simp; rfl)); (case hp => exact (Reps.c3 (show Kd.M k33 _ _ _ (⟨3, 1, (⟨#[]⟩ : ByteArray)⟩ : S33) [.int .i64 3, .int .i64 1, .string (⟨#[]⟩ : ByteArray)] from (k33_mkM _ _ _ (⟨3, 1, (⟨#[]⟩ : ByteArray)⟩ : S33) )) (Reps.none _ _))); intro v292 wx17i0 ho141 hb hg_ hnew_; clear hg_ hnew_; (first | rw [← Ny291.out] at ho141 | (simp only [Int.reduceToNat] at ho141; rw [← Ny291.out] at ho141)); have n0_ := Aside0.mk (Kd.R_elder' (by (with_reducible repeat (first | apply Kd.R_alloc | apply Kd.R_drewN | apply Kd.R_drew)); exact (Kd.R_mono (Kd.R_far (p := ⟨gb290, 3, none⟩) (Kd.R_far (p := ⟨gb290, 2, none⟩) (Kd.R_far (p := ⟨gb290, 1, none⟩) (Kd.R_far (p := ⟨gb290, 0, none⟩) (Kd.R_types HO289.out BK290.out (by decide)) (fun _ hk => hk.2) (.int .i64 0)) (fun _ hk => hk.2) (.int .i64 0)) (fun _ hk => hk.2) (.slice Aox11i0 y287.length cox11i0)) (fun _ hk => hk.2) (.int .i64 0)) (fun _ h_ => h_.1))) (Kd.R_base ho141) hb); have n1_ := Aside0.mk (Kd.R_lower (Kd.R_new' ho141 (Kd.R_lt (by (with_reducible repeat (first | apply Kd.R_alloc | apply Kd.R_drewN | apply Kd.R_drew)); exact (Kd.R_mono (Kd.R_far (p := ⟨gb290, 3, none⟩) (Kd.R_far (p := ⟨gb290, 2, none⟩) (Kd.R_far (p := ⟨gb290, 1, none⟩) (Kd.R_far (p := ⟨gb290, 0, none⟩) (Kd.R_types HO289.out BK290.out (by decide)) (fun _ hk => hk.2) (.int .i64 0)) (fun _ hk => hk.2) (.int .i64 0)) (fun _ hk => hk.2) (.slice Aox11i0 y287.length cox11i0)) (fun _ hk => hk.2) (.int .i64 0)) (fun _ h_ => h_.1))))) (below_size (by repeat (first | (with_reducible first | exact HB.out | apply below_alloc | apply pw_below_drewN | apply below_drew1 | refine below_set ?_ GE290.out) | exact HB.out)))); have n2_ := Aside0.mk (blk_below (g := gb290) (o := .cells #[.int .i64 0, .int .i64 0, .slice Aox11i0 y287.length cox11i0, .int .i64 0] 26 (0, 0)) (by (with_reducible repeat (first | refine blk_drewN ?_ _ | refine blk_drew ?_ | refine blk_alloc ?_ _)); refine blk_put (cs := #[.int .i64 0, .int .i64 0, .slice Aox11i0 y287.length cox11i0, .int .i64 0]) ?_ 3 _ rfl; (with_reducible repeat (first | refine blk_drewN ?_ _ | refine blk_drew ?_ | refine blk_alloc ?_ _)); refine blk_put (cs := #[.int .i64 0, .int .i64 0, .slice none 0 0, .int .i64 0]) ?_ 2 _ rfl; (with_reducible repeat (first | refine blk_drewN ?_ _ | refine blk_drew ?_ | refine blk_alloc ?_ _)); refine blk_put (cs := #[.int .i64 0, .int .i64 0, .slice none 0 0, .int .i64 0]) ?_ 1 _ rfl; (with_reducible repeat (first | refine blk_drewN ?_ _ | refine blk_drew ?_ | refine blk_alloc ?_ _)); refine blk_put (cs := #[.int .i64 0, .int .i64 0, .slice none 0 0, .int .i64 0]) ?_ 0 _ rfl; (with_reducible repeat (first | refine blk_drewN ?_ _ | refine blk_drew ?_ | refine blk_alloc ?_ _)); exact BK290.out) hb); have n3_ := Aside0.mk (below_step (by repeat (first | (with_reducible first | exact HB.out | apply below_alloc | apply pw_below_drewN | apply below_drew1 | refine below_set ?_ GE290.out) | exact HB.out)) hb); clear HO289; clear BK290; clear HB; have HO289 := n0_; have HO293 := n1_; have BK290 := n2_; have HB := n3_; clear n0_ n1_ n2_ n3_; clear hb ho141; obtain ⟨Aox17i0, cox17i0, eox17i0⟩ := Kd.R_slice HO293.out; subst eox17i0) | ((with_reducible refine gate_dst (N := 17) rfl ?_); (try (refine gate_guard (by rfl) ?_; dsimp only)); refine Kd.R_lit k33 _ 33 ?hg (N := 17) ?hd (xs := ([(⟨3, 1, (⟨#[]⟩ : ByteArray)⟩ : S33)] : List (S33))) (inner := [.int .i64 3, .int .i64 1, .string (⟨#[]⟩ : ByteArray)]) (ok := fun _ => True) (okp := fun _ => True) ?hr ?hp (fun _ hk => hk) trivial (Below.refl _ _) (Nat.le_refl _) (by simp) ?_; (case hd => rfl); (case hg => rfl); (case hr => first | (go_simp; done) | (go_simp; rfl)); (case hp => exact (Reps.c3 (show Kd.M k33 _ _ _ (⟨3, 1, (⟨#[]⟩ : ByteArray)⟩ : S33) [.int .i64 3, .int .i64 1, .string (⟨#[]⟩ : ByteArray)] from (k33_mkM _ _ _ (⟨3, 1, (⟨#[]⟩ : ByteArray)⟩ : S33) )) (Reps.none _ _))); intro v292 wx17i0 ho165 hb hg_ hnew_; clear hg_ hnew_; (first | rw [← Ny291.out] at ho165 | (simp only [Int.reduceToNat] at ho165; rw [← Ny291.out] at ho165)); have n0_ := Aside0.mk (Kd.R_elder' (by (with_reducible repeat (first | apply Kd.R_alloc | apply Kd.R_drewN | apply Kd.R_drew)); exact (Kd.R_mono (Kd.R_far (p := ⟨gb290, 3, none⟩) (Kd.R_far (p := ⟨gb290, 2, none⟩) (Kd.R_far (p := ⟨gb290, 1, none⟩) (Kd.R_far (p := ⟨gb290, 0, none⟩) (Kd.R_types HO289.out BK290.out (by decide)) (fun _ hk => hk.2) (.int .i64 0)) (fun _ hk => hk.2) (.int .i64 0)) (fun _ hk => hk.2) (.slice Aox11i0 y287.length cox11i0)) (fun _ hk => hk.2) (.int .i64 0)) (fun _ h_ => h_.1))) (Kd.R_base ho165) hb); have n1_ := Aside0.mk (Kd.R_lower (Kd.R_new' ho165 (Kd.R_lt (by (with_reducible repeat (first | apply Kd.R_alloc | apply Kd.R_drewN | apply Kd.R_drew)); exact (Kd.R_mono (Kd.R_far (p := ⟨gb290, 3, none⟩) (Kd.R_far (p := ⟨gb290, 2, none⟩) (Kd.R_far (p := ⟨gb290, 1, none⟩) (Kd.R_far (p := ⟨gb290, 0, none⟩) (Kd.R_types HO289.out BK290.out (by decide)) (fun _ hk => hk.2) (.int .i64 0)) (fun _ hk => hk.2) (.int .i64 0)) (fun _ hk => hk.2) (.slice Aox11i0 y287.length cox11i0)) (fun _ hk => hk.2) (.int .i64 0)) (fun _ h_ => h_.1))))) (below_size (by repeat (first | (with_reducible first | exact HB.out | apply below_alloc | apply pw_below_drewN | apply below_drew1 | refine below_set ?_ GE290.out) | exact HB.out)))); have n2_ := Aside0.mk (blk_below (g := gb290) (o := .cells #[.int .i64 0, .int .i64 0, .slice Aox11i0 y287.length cox11i0, .int .i64 0] 26 (0, 0)) (by (with_reducible repeat (first | refine blk_drewN ?_ _ | refine blk_drew ?_ | refine blk_alloc ?_ _)); refine blk_put (cs := #[.int .i64 0, .int .i64 0, .slice Aox11i0 y287.length cox11i0, .int .i64 0]) ?_ 3 _ rfl; (with_reducible repeat (first | refine blk_drewN ?_ _ | refine blk_drew ?_ | refine blk_alloc ?_ _)); refine blk_put (cs := #[.int .i64 0, .int .i64 0, .slice none 0 0, .int .i64 0]) ?_ 2 _ rfl; (with_reducible repeat (first | refine blk_drewN ?_ _ | refine blk_drew ?_ | refine blk_alloc ?_ _)); refine blk_put (cs := #[.int .i64 0, .int .i64 0, .slice none 0 0, .int .i64 0]) ?_ 1 _ rfl; (with_reducible repeat (first | refine blk_drewN ?_ _ | refine blk_drew ?_ | refine blk_alloc ?_ _)); refine blk_put (cs := #[.int .i64 0, .int .i64 0, .slice none 0 0, .int .i64 0]) ?_ 0 _ rfl; (with_reducible repeat (first | refine blk_drewN ?_ _ | refine blk_drew ?_ | refine blk_alloc ?_ _)); exact BK290.out) hb); have n3_ := Aside0.mk (below_step (by repeat (first | (with_reducible first | exact HB.out | apply below_alloc | apply pw_below_drewN | apply below_drew1 | refine below_set ?_ GE290.out) | exact HB.out)) hb); clear HO289; clear BK290; clear HB; have HO289 := n0_; have HO293 := n1_; have BK290 := n2_; have HB := n3_; clear n0_ n1_ n2_ n3_; clear hb ho165; obtain ⟨Aox17i0, cox17i0, eox17i0⟩ := Kd.R_slice HO293.out; subst eox17i0) | ((with_reducible refine gate_dst (N := 17) rfl ?_); (try (refine gate_guard (by rfl) ?_; dsimp only)); refine Kd.R_lit k33 _ 33 ?hg (N := 17) ?hd (xs := ([(⟨3, 1, (⟨#[]⟩ : ByteArray)⟩ : S33)] : List (S33))) (inner := [.int .i64 3, .int .i64 1, .string (⟨#[]⟩ : ByteArray)]) (ok := fun _ => True) (okp := fun _ => True) ?hr ?hp (fun _ hk => hk) trivial (Below.refl _ _) (Nat.le_refl _) (by simp) ?_; (case hd => rfl); (case hg => rfl); (case hr => first | (go_simp; done) | (go_simp; rfl)); (case hp => exact (Reps.c3 (show Kd.M k33 _ _ _ (⟨3, 1, (⟨#[]⟩ : ByteArray)⟩ : S33) [.int .i64 3, .int .i64 1, .string (⟨#[]⟩ : ByteArray)] from (k33_mkM _ _ _ (⟨3, 1, (⟨#[]⟩ : ByteArray)⟩ : S33) )) (Reps.none _ _))); intro v292 wx17i0 ho188 hb hg_ hnew_; clear hg_ hnew_; (first | rw [← Ny291.out] at ho188 | (simp only [Int.reduceToNat] at ho188; rw [← Ny291.out] at ho188)); have n0_ := Aside0.mk (Kd.R_elder' (by (with_reducible repeat (first | apply Kd.R_alloc | apply Kd.R_drewN | apply Kd.R_drew)); exact (Kd.R_mono (Kd.R_far (p := ⟨gb290, 3, none⟩) (Kd.R_far (p := ⟨gb290, 2, none⟩) (Kd.R_far (p := ⟨gb290, 1, none⟩) (Kd.R_far (p := ⟨gb290, 0, none⟩) (Kd.R_types HO289.out BK290.out (by decide)) (fun _ hk => hk.2) (.int .i64 0)) (fun _ hk => hk.2) (.int .i64 0)) (fun _ hk => hk.2) (.slice Aox11i0 y287.length cox11i0)) (fun _ hk => hk.2) (.int .i64 0)) (fun _ h_ => h_.1))) (Kd.R_base ho188) hb); have n1_ := Aside0.mk (Kd.R_lower (Kd.R_new' ho188 (Kd.R_lt (by (with_reducible repeat (first | apply Kd.R_alloc | apply Kd.R_drewN | apply Kd.R_drew)); exact (Kd.R_mono (Kd.R_far (p := ⟨gb290, 3, none⟩) (Kd.R_far (p := ⟨gb290, 2, none⟩) (Kd.R_far (p := ⟨gb290, 1, none⟩) (Kd.R_far (p := ⟨gb290, 0, none⟩) (Kd.R_types HO289.out BK290.out (by decide)) (fun _ hk => hk.2) (.int .i64 0)) (fun _ hk => hk.2) (.int .i64 0)) (fun _ hk => hk.2) (.slice Aox11i0 y287.length cox11i0)) (fun _ hk => hk.2) (.int .i64 0)) (fun _ h_ => h_.1))))) (below_size (by repeat (first | (with_reducible first | exact HB.out | apply below_alloc | apply pw_below_drewN | apply below_drew1 | refine below_set ?_ GE290.out) | exact HB.out)))); have n2_ := Aside0.mk (blk_below (g := gb290) (o := .cells #[.int .i64 0, .int .i64 0, .slice Aox11i0 y287.length cox11i0, .int .i64 0] 26 (0, 0)) (by (with_reducible repeat (first | refine blk_drewN ?_ _ | refine blk_drew ?_ | refine blk_alloc ?_ _)); refine blk_put (cs := #[.int .i64 0, .int .i64 0, .slice Aox11i0 y287.length cox11i0, .int .i64 0]) ?_ 3 _ rfl; (with_reducible repeat (first | refine blk_drewN ?_ _ | refine blk_drew ?_ | refine blk_alloc ?_ _)); refine blk_put (cs := #[.int .i64 0, .int .i64 0, .slice none 0 0, .int .i64 0]) ?_ 2 _ rfl; (with_reducible repeat (first | refine blk_drewN ?_ _ | refine blk_drew ?_ | refine blk_alloc ?_ _)); refine blk_put (cs := #[.int .i64 0, .int .i64 0, .slice none 0 0, .int .i64 0]) ?_ 1 _ rfl; (with_reducible repeat (first | refine blk_drewN ?_ _ | refine blk_drew ?_ | refine blk_alloc ?_ _)); refine blk_put (cs := #[.int .i64 0, .int .i64 0, .slice none 0 0, .int .i64 0]) ?_ 0 _ rfl; (with_reducible repeat (first | refine blk_drewN ?_ _ | refine blk_drew ?_ | refine blk_alloc ?_ _)); exact BK290.out) hb); have n3_ := Aside0.mk (below_step (by repeat (first | (with_reducible first | exact HB.out | apply below_alloc | apply pw_below_drewN | apply below_drew1 | refine below_set ?_ GE290.out) | exact HB.out)) hb); clear HO289; clear BK290; clear HB; have HO289 := n0_; have HO293 := n1_; have BK290 := n2_; have HB := n3_; clear n0_ n1_ n2_ n3_; clear hb ho188; obtain ⟨Aox17i0, cox17i0, eox17i0⟩ := Kd.R_slice HO293.out; subst eox17i0) | ((with_reducible refine gate_dst (N := 17) rfl ?_); (try (refine gate_guard (by rfl) ?_; dsimp only)); refine Kd.R_lit k33 _ 33 ?hg (N := 17) ?hd (xs := ([(⟨3, 1, (⟨#[]⟩ : ByteArray)⟩ : S33)] : List (S33))) (inner := [.int .i64 3, .int .i64 1, .string (⟨#[]⟩ : ByteArray)]) (ok := fun _ => True) (okp := fun _ => True) ?hr ?hp (fun _ hk => hk) trivial (Below.refl _ _) (Nat.le_refl _) (by simp) ?_; (case hd => rfl); (case hg => rfl); (case hr => first | (go_simp; done) | (go_simp; rfl)); (case hp => exact (Reps.c3 (show Kd.M k33 _ _ _ (⟨3, 1, (⟨#[]⟩ : ByteArray)⟩ : S33) [.int .i64 3, .int .i64 1, .string (⟨#[]⟩ : ByteArray)] from (k33_mkM _ _ _ (⟨3, 1, (⟨#[]⟩ : ByteArray)⟩ : S33) )) (Reps.none _ _))); intro v292 wx17i0 ho211 hb hg_ hnew_; clear hg_ hnew_; (first | rw [← Ny291.out] at ho211 | (simp only [Int.reduceToNat] at ho211; rw [← Ny291.out] at ho211)); have n0_ := Aside0.mk (Kd.R_elder' (by (with_reducible repeat (first | apply Kd.R_alloc | apply Kd.R_drewN | apply Kd.R_drew)); exact (Kd.R_mono (Kd.R_far (p := ⟨gb290, 3, none⟩) (Kd.R_far (p := ⟨gb290, 2, none⟩) (Kd.R_far (p := ⟨gb290, 1, none⟩) (Kd.R_far (p := ⟨gb290, 0, none⟩) (Kd.R_types HO289.out BK290.out (by decide)) (fun _ hk => hk.2) (.int .i64 0)) (fun _ hk => hk.2) (.int .i64 0)) (fun _ hk => hk.2) (.slice Aox11i0 y287.length cox11i0)) (fun _ hk => hk.2) (.int .i64 0)) (fun _ h_ => h_.1))) (Kd.R_base ho211) hb); have n1_ := Aside0.mk (Kd.R_lower (Kd.R_new' ho211 (Kd.R_lt (by (with_reducible repeat (first | apply Kd.R_alloc | apply Kd.R_drewN | apply Kd.R_drew)); exact (Kd.R_mono (Kd.R_far (p := ⟨gb290, 3, none⟩) (Kd.R_far (p := ⟨gb290, 2, none⟩) (Kd.R_far (p := ⟨gb290, 1, none⟩) (Kd.R_far (p := ⟨gb290, 0, none⟩) (Kd.R_types HO289.out BK290.out (by decide)) (fun _ hk => hk.2) (.int .i64 0)) (fun _ hk => hk.2) (.int .i64 0)) (fun _ hk => hk.2) (.slice Aox11i0 y287.length cox11i0)) (fun _ hk => hk.2) (.int .i64 0)) (fun _ h_ => h_.1))))) (below_size (by repeat (first | (with_reducible first | exact HB.out | apply below_alloc | apply pw_below_drewN | apply below_drew1 | refine below_set ?_ GE290.out) | exact HB.out)))); have n2_ := Aside0.mk (blk_below (g := gb290) (o := .cells #[.int .i64 0, .int .i64 0, .slice Aox11i0 y287.length cox11i0, .int .i64 0] 26 (0, 0)) (by (with_reducible repeat (first | refine blk_drewN ?_ _ | refine blk_drew ?_ | refine blk_alloc ?_ _)); refine blk_put (cs := #[.int .i64 0, .int .i64 0, .slice Aox11i0 y287.length cox11i0, .int .i64 0]) ?_ 3 _ rfl; (with_reducible repeat (first | refine blk_drewN ?_ _ | refine blk_drew ?_ | refine blk_alloc ?_ _)); refine blk_put (cs := #[.int .i64 0, .int .i64 0, .slice none 0 0, .int .i64 0]) ?_ 2 _ rfl; (with_reducible repeat (first | refine blk_drewN ?_ _ | refine blk_drew ?_ | refine blk_alloc ?_ _)); refine blk_put (cs := #[.int .i64 0, .int .i64 0, .slice none 0 0, .int .i64 0]) ?_ 1 _ rfl; (with_reducible repeat (first | refine blk_drewN ?_ _ | refine blk_drew ?_ | refine blk_alloc ?_ _)); refine blk_put (cs := #[.int .i64 0, .int .i64 0, .slice none 0 0, .int .i64 0]) ?_ 0 _ rfl; (with_reducible repeat (first | refine blk_drewN ?_ _ | refine blk_drew ?_ | refine blk_alloc ?_ _)); exact BK290.out) hb); have n3_ := Aside0.mk (below_step (by repeat (first | (with_reducible first | exact HB.out | apply below_alloc | apply pw_below_drewN | apply below_drew1 | refine below_set ?_ GE290.out) | exact HB.out)) hb); clear HO289; clear BK290; clear HB; have HO289 := n0_; have HO293 := n1_; have BK290 := n2_; have HB := n3_; clear n0_ n1_ n2_ n3_; clear hb ho211; obtain ⟨Aox17i0, cox17i0, eox17i0⟩ := Kd.R_slice HO293.out; subst eox17i0) | ((with_reducible refine gate_callee (f := 20) rfl ?_); refine goesL_ (some 18) rfl rfl Try.func20 (by kernel_rfl) rfl #[.agg #[.int .i64 0, .int .i64 0, .slice Aox11i0 y287.length cox11i0, .int .i64 0], .agg #[.int .i64 2, .int .i64 1], .slice Aox17i0 y291.length cox17i0, .int .i64 9] rfl (by (try simp only [List.map_toArray, List.map_cons, List.map_nil]); first | done | rfl | (simp only [List.length_drop, List.length_take]; rfl)) ?_; (with_reducible refine (entries_Accept.calls k 0 0 _ _ y287 0 2 1 _ _ y291 9 t294 t295 t296 t299 t300 _ t302 _ ?side1 ?side2 ?side3 ?side4 A1.out).mono ?_); (case side1 => repeat (first | exact (Kd.R_reads' HO289.out).2.2 | (with_reducible refine Kd.C_alloc ?_ _) | (with_reducible refine Kd.C_drewN ?_ _) | (with_reducible refine Kd.C_drew ?_))); (case side2 => exact (Kd.R_reads' HO289.out).2.1); (case side3 => repeat (first | exact (Kd.R_reads' HO293.out).2.2 | (with_reducible refine Kd.C_alloc ?_ _) | (with_reducible refine Kd.C_drewN ?_ _) | (with_reducible refine Kd.C_drew ?_))); (case side4 => exact (Kd.R_reads' HO293.out).2.1); rintro e wx18i0 ⟨v297, rfl, ho0, hb⟩; refine ⟨_, rfl, ?_⟩; have n0_ := Aside0.mk (Kd.R_elder' (by (with_reducible repeat (first | apply Kd.R_alloc | apply Kd.R_drewN | apply Kd.R_drew)); exact HO289.out) (Kd.R_base ho0) hb); have n1_ := Aside0.mk (Kd.R_elder' (by (with_reducible repeat (first | apply Kd.R_alloc | apply Kd.R_drewN | apply Kd.R_drew)); exact HO293.out) (Kd.R_base ho0) hb); have n2_ := Aside0.mk (Kd.R_lower (Kd.R_new' (Kd.R_new' ho0 (Kd.R_lt (by (with_reducible repeat (first | apply Kd.R_alloc | apply Kd.R_drewN | apply Kd.R_drew)); exact HO289.out))) (Kd.R_lt (by (with_reducible repeat (first | apply Kd.R_alloc | apply Kd.R_drewN | apply Kd.R_drew)); exact HO293.out))) (below_size (by repeat (first | (with_reducible first | exact HB.out | apply below_alloc | apply pw_below_drewN | apply below_drew1 | refine below_set ?_ GE290.out) | exact HB.out)))); have n3_ := Aside0.mk (blk_below (g := gb290) (o := .cells #[.int .i64 0, .int .i64 0, .slice Aox11i0 y287.length cox11i0, .int .i64 0] 26 (0, 0)) (by (with_reducible repeat (first | refine blk_drewN ?_ _ | refine blk_drew ?_ | refine blk_alloc ?_ _)); exact BK290.out) hb); have n4_ := Aside0.mk (below_step (by repeat (first | (with_reducible first | exact HB.out | apply below_alloc | apply pw_below_drewN | apply below_drew1 | refine below_set ?_ GE290.out) | exact HB.out)) hb); clear HO289; clear HO293; clear BK290; clear HB; have HO289 := n0_; have HO293 := n1_; have HO298 := n2_; have BK290 := n3_; have HB := n4_; clear n0_ n1_ n2_ n3_ n4_; (try clear hb); (try clear hb2); (try clear hk); (try clear hi); (try clear ho0)) | ((with_reducible refine gate_callee (f := 20) rfl ?_); refine goesL_ (some 18) rfl rfl Try.func20 (by kernel_rfl) rfl #[.agg #[.int .i64 0, .int .i64 0, .slice Aox11i0 y287.length cox11i0, .int .i64 0], .agg #[.int .i64 2, .int .i64 1], .slice Aox17i0 y291.length cox17i0, .int .i64 9] rfl (by (try simp only [List.map_toArray, List.map_cons, List.map_nil]); first | done | rfl | (simp only [List.length_drop, List.length_take]; rfl)) ?_; (with_reducible refine (entries_Accept.calls k 0 0 _ _ y287 0 2 1 _ _ y291 9 t294 t295 t296 t299 t300 t301 t302 _ ?side1 ?side2 ?side3 ?side4 A1.out).mono ?_); (case side1 => repeat (first | exact (Kd.R_reads' HO289.out).2.2 | (with_reducible refine Kd.C_alloc ?_ _) | (with_reducible refine Kd.C_drewN ?_ _) | (with_reducible refine Kd.C_drew ?_))); (case side2 => exact (Kd.R_reads' HO289.out).2.1); (case side3 => repeat (first | exact (Kd.R_reads' HO293.out).2.2 | (with_reducible refine Kd.C_alloc ?_ _) | (with_reducible refine Kd.C_drewN ?_ _) | (with_reducible refine Kd.C_drew ?_))); (case side4 => exact (Kd.R_reads' HO293.out).2.1); rintro e wx18i0 ⟨v297, rfl, ho0, hb⟩; refine ⟨_, rfl, ?_⟩; have n0_ := Aside0.mk (Kd.R_elder' (by (with_reducible repeat (first | apply Kd.R_alloc | apply Kd.R_drewN | apply Kd.R_drew)); exact HO289.out) (Kd.R_base ho0) hb); have n1_ := Aside0.mk (Kd.R_elder' (by (with_reducible repeat (first | apply Kd.R_alloc | apply Kd.R_drewN | apply Kd.R_drew)); exact HO293.out) (Kd.R_base ho0) hb); have n2_ := Aside0.mk (Kd.R_lower (Kd.R_new' (Kd.R_new' ho0 (Kd.R_lt (by (with_reducible repeat (first | apply Kd.R_alloc | apply Kd.R_drewN | apply Kd.R_drew)); exact HO289.out))) (Kd.R_lt (by (with_reducible repeat (first | apply Kd.R_alloc | apply Kd.R_drewN | apply Kd.R_drew)); exact HO293.out))) (below_size (by repeat (first | (with_reducible first | exact HB.out | apply below_alloc | apply pw_below_drewN | apply below_drew1 | refine below_set ?_ GE290.out) | exact HB.out)))); have n3_ := Aside0.mk (blk_below (g := gb290) (o := .cells #[.int .i64 0, .int .i64 0, .slice Aox11i0 y287.length cox11i0, .int .i64 0] 26 (0, 0)) (by (with_reducible repeat (first | refine blk_drewN ?_ _ | refine blk_drew ?_ | refine blk_alloc ?_ _)); exact BK290.out) hb); have n4_ := Aside0.mk (below_step (by repeat (first | (with_reducible first | exact HB.out | apply below_alloc | apply pw_below_drewN | apply below_drew1 | refine below_set ?_ GE290.out) | exact HB.out)) hb); clear HO289; clear HO293; clear BK290; clear HB; have HO289 := n0_; have HO293 := n1_; have HO298 := n2_; have BK290 := n3_; have HB := n4_; clear n0_ n1_ n2_ n3_ n4_; (try clear hb); (try clear hb2); (try clear hk); (try clear hi); (try clear ho0)) | ((with_reducible refine gate_dst (N := 2) rfl ?_); (try (refine gate_guard (by rfl) ?_; dsimp only)); refine box_event ?hg (N := 2) ?hd (cs := #[.int .i64 0, .int .i64 0, .slice none 0 0, .int .i64 0]) (t := 26) ?hr ?_; (case hd => rfl); (case hg => rfl); (case hr => first | (go_simp; done) | (go_simp; rfl)); intro gb303 hg wx2i0 hbox hb; have n0_ := Aside0.mk (Kd.R_below (by (with_reducible repeat (first | apply Kd.R_alloc | apply Kd.R_drewN | apply Kd.R_drew)); exact HO289.out) hb); have n1_ := Aside0.mk (Kd.R_below (by (with_reducible repeat (first | apply Kd.R_alloc | apply Kd.R_drewN | apply Kd.R_drew)); exact HO293.out) hb); have n2_ := Aside0.mk (Kd.R_below (by (with_reducible repeat (first | apply Kd.R_alloc | apply Kd.R_drewN | apply Kd.R_drew)); exact HO298.out) hb); have n3_ := Aside0.mk (blk_below (g := gb290) (o := .cells #[.int .i64 0, .int .i64 0, .slice Aox11i0 y287.length cox11i0, .int .i64 0] 26 (0, 0)) (by (with_reducible repeat (first | refine blk_drewN ?_ _ | refine blk_drew ?_ | refine blk_alloc ?_ _)); exact BK290.out) hb); have n4_ := Aside0.mk (below_step (by repeat (first | (with_reducible first | exact HB.out | apply below_alloc | apply pw_below_drewN | apply below_drew1 | refine below_set ?_ GE290.out) | exact HB.out)) hb); have n5_ := Aside0.mk (hbox); have n6_ := Aside0.mk ((by rw [hg]; exact (below_size (by repeat (first | (with_reducible first | exact HB.out | apply below_alloc | apply pw_below_drewN | apply below_drew1 | refine below_set ?_ GE290.out) | exact HB.out))) : w.heap.size ≤ gb303)); have n7_ := Aside0.mk ((by rw [hg]; exact (below_size (by repeat (first | (with_reducible first | exact HB.out | apply below_alloc | apply pw_below_drewN | apply below_drew1 | refine below_set ?_ GE290.out) | exact HB.out))) : w.heap.size ≤ gb303)); have n8_ := Aside0.mk ((by rw [hg]; exact Nat.ne_of_lt (blk_lt (g := gb290) (o := .cells #[.int .i64 0, .int .i64 0, .slice Aox11i0 y287.length cox11i0, .int .i64 0] 26 (0, 0)) (by (with_reducible repeat (first | refine blk_drewN ?_ _ | refine blk_drew ?_ | refine blk_alloc ?_ _)); exact BK290.out)) : gb290 ≠ gb303)); have n9_ := Aside0.mk ((by rw [hg]; exact Nat.ne_of_gt (blk_lt (g := gb290) (o := .cells #[.int .i64 0, .int .i64 0, .slice Aox11i0 y287.length cox11i0, .int .i64 0] 26 (0, 0)) (by (with_reducible repeat (first | refine blk_drewN ?_ _ | refine blk_drew ?_ | refine blk_alloc ?_ _)); exact BK290.out)) : gb303 ≠ gb290)); clear HO289; clear HO293; clear HO298; clear BK290; clear HB; have HO289 := n0_; have HO293 := n1_; have HO298 := n2_; have BK290 := n3_; have HB := n4_; have BK303 := n5_; have GW303 := n6_; have GE303 := n7_; have NB290_303 := n8_; have NB303_290 := n9_; clear n0_ n1_ n2_ n3_ n4_ n5_ n6_ n7_ n8_ n9_; clear hb hbox hg; have hnbx2b303_290 := NB303_290.out; have hncx2b290_303 := NB290_303.out; have hczx2b303_0 : wx2i0.cell? ⟨gb303, 0, none⟩ = some (.int .i64 0) := (blk_cell BK303.out 0).trans rfl; have hczx2b303_1 : wx2i0.cell? ⟨gb303, 1, none⟩ = some (.int .i64 0) := (blk_cell BK303.out 1).trans rfl; have hczx2b303_2 : wx2i0.cell? ⟨gb303, 2, none⟩ = some (.slice none 0 0) := (blk_cell BK303.out 2).trans rfl; have hczx2b303_3 : wx2i0.cell? ⟨gb303, 3, none⟩ = some (.int .i64 0) := (blk_cell BK303.out 3).trans rfl; have hfzx2b303_0 := blk_frozen BK303.out 0; have hfzx2b303_1 := blk_frozen BK303.out 1; have hfzx2b303_2 := blk_frozen BK303.out 2; have hfzx2b303_3 := blk_frozen BK303.out 3; obtain ⟨Aox2i0, cox2i0, eox2i0⟩ := Kd.R_slice HO298.out; subst eox2i0; have hczx2b290_0 : wx2i0.cell? ⟨gb290, 0, none⟩ = some (.int .i64 0) := (blk_cell BK290.out 0).trans rfl; have hczx2b290_1 : wx2i0.cell? ⟨gb290, 1, none⟩ = some (.int .i64 0) := (blk_cell BK290.out 1).trans rfl; have hczx2b290_2 : wx2i0.cell? ⟨gb290, 2, none⟩ = some (.slice Aox11i0 y287.length cox11i0) := (blk_cell BK290.out 2).trans rfl; have hczx2b290_3 : wx2i0.cell? ⟨gb290, 3, none⟩ = some (.int .i64 0) := (blk_cell BK290.out 3).trans rfl; have hfzx2b290_0 := blk_frozen BK290.out 0; have hfzx2b290_1 := blk_frozen BK290.out 1; have hfzx2b290_2 := blk_frozen BK290.out 2; have hfzx2b290_3 := blk_frozen BK290.out 3) | ((with_reducible refine gate_dst (N := 25) rfl ?_); (try (refine gate_guard (by rfl) ?_; dsimp only)); refine Kd.R_lit (Kd.int .i64) _ 3 ?hg (N := 25) ?hd (xs := ([3, 3, 1] : List Int)) (inner := [.int .i64 3, .int .i64 3, .int .i64 1]) (ok := fun _ => True) (okp := fun _ => True) ?hr ?hp (fun _ hk => hk) trivial (Below.refl _ _) (Nat.le_refl _) (by simp) ?_; (case hd => rfl); (case hg => rfl); (case hr => first | (go_simp; done) | (go_simp; rfl)); (case hp => exact (Reps.one (show Kd.M (Kd.int .i64) _ _ _ 3 [.int .i64 3] from rfl) (Reps.one (show Kd.M (Kd.int .i64) _ _ _ 3 [.int .i64 3] from rfl) (Reps.one (show Kd.M (Kd.int .i64) _ _ _ 1 [.int .i64 1] from rfl) (Reps.none _ _))))); intro v305 wx25i0 ho126 hb hg_ hnew_; clear hg_ hnew_; (first | rw [← Ny304.out] at ho126 | (simp only [Int.reduceToNat] at ho126; rw [← Ny304.out] at ho126)); have n0_ := Aside0.mk (Kd.R_below (by (with_reducible repeat (first | apply Kd.R_alloc | apply Kd.R_drewN | apply Kd.R_drew)); exact (Kd.R_mono (Kd.R_far (p := ⟨gb303, 3, none⟩) (Kd.R_far (p := ⟨gb303, 2, none⟩) (Kd.R_far (p := ⟨gb303, 1, none⟩) (Kd.R_far (p := ⟨gb303, 0, none⟩) (Kd.R_types HO289.out BK303.out (by decide)) (fun _ hk => hk.2) (.int .i64 t294)) (fun _ hk => hk.2) (.int .i64 t295)) (fun _ hk => hk.2) (.slice Aox2i0 t296.length cox2i0)) (fun _ hk => hk.2) (.int .i64 t299)) (fun _ h_ => h_.1))) hb); have n1_ := Aside0.mk (Kd.R_below (by (with_reducible repeat (first | apply Kd.R_alloc | apply Kd.R_drewN | apply Kd.R_drew)); exact (Kd.R_mono (Kd.R_far (p := ⟨gb303, 3, none⟩) (Kd.R_far (p := ⟨gb303, 2, none⟩) (Kd.R_far (p := ⟨gb303, 1, none⟩) (Kd.R_far (p := ⟨gb303, 0, none⟩) (Kd.R_types HO293.out BK303.out (by decide)) (fun _ hk => hk.2) (.int .i64 t294)) (fun _ hk => hk.2) (.int .i64 t295)) (fun _ hk => hk.2) (.slice Aox2i0 t296.length cox2i0)) (fun _ hk => hk.2) (.int .i64 t299)) (fun _ h_ => h_.1))) hb); have n2_ := Aside0.mk (Kd.R_below (by (with_reducible repeat (first | apply Kd.R_alloc | apply Kd.R_drewN | apply Kd.R_drew)); exact (Kd.R_mono (Kd.R_far (p := ⟨gb303, 3, none⟩) (Kd.R_far (p := ⟨gb303, 2, none⟩) (Kd.R_far (p := ⟨gb303, 1, none⟩) (Kd.R_far (p := ⟨gb303, 0, none⟩) (Kd.R_types HO298.out BK303.out (by decide)) (fun _ hk => hk.2) (.int .i64 t294)) (fun _ hk => hk.2) (.int .i64 t295)) (fun _ hk => hk.2) (.slice Aox2i0 t296.length cox2i0)) (fun _ hk => hk.2) (.int .i64 t299)) (fun _ h_ => h_.1))) hb); have n3_ := Aside0.mk (Kd.R_lower ho126 (below_size (by repeat (first | (with_reducible first | exact HB.out | apply below_alloc | apply pw_below_drewN | apply below_drew1 | refine below_set ?_ GE290.out | refine below_set ?_ GE303.out) | exact HB.out)))); have n4_ := Aside0.mk (blk_below (g := gb290) (o := .cells #[.int .i64 0, .int .i64 0, .slice Aox11i0 y287.length cox11i0, .int .i64 0] 26 (0, 0)) (by (with_reducible repeat (first | refine blk_drewN ?_ _ | refine blk_drew ?_ | refine blk_alloc ?_ _)); refine blk_far ?_ NB290_303.out _; (with_reducible repeat (first | refine blk_drewN ?_ _ | refine blk_drew ?_ | refine blk_alloc ?_ _)); refine blk_far ?_ NB290_303.out _; (with_reducible repeat (first | refine blk_drewN ?_ _ | refine blk_drew ?_ | refine blk_alloc ?_ _)); refine blk_far ?_ NB290_303.out _; (with_reducible repeat (first | refine blk_drewN ?_ _ | refine blk_drew ?_ | refine blk_alloc ?_ _)); refine blk_far ?_ NB290_303.out _; (with_reducible repeat (first | refine blk_drewN ?_ _ | refine blk_drew ?_ | refine blk_alloc ?_ _)); exact BK290.out) hb); have n5_ := Aside0.mk (blk_below (g := gb303) (o := .cells #[.int .i64 t294, .int .i64 t295, .slice Aox2i0 t296.length cox2i0, .int .i64 t299] 26 (0, 0)) (by (with_reducible repeat (first | refine blk_drewN ?_ _ | refine blk_drew ?_ | refine blk_alloc ?_ _)); refine blk_put (cs := #[.int .i64 t294, .int .i64 t295, .slice Aox2i0 t296.length cox2i0, .int .i64 0]) ?_ 3 _ rfl; (with_reducible repeat (first | refine blk_drewN ?_ _ | refine blk_drew ?_ | refine blk_alloc ?_ _)); refine blk_put (cs := #[.int .i64 t294, .int .i64 t295, .slice none 0 0, .int .i64 0]) ?_ 2 _ rfl; (with_reducible repeat (first | refine blk_drewN ?_ _ | refine blk_drew ?_ | refine blk_alloc ?_ _)); refine blk_put (cs := #[.int .i64 t294, .int .i64 0, .slice none 0 0, .int .i64 0]) ?_ 1 _ rfl; (with_reducible repeat (first | refine blk_drewN ?_ _ | refine blk_drew ?_ | refine blk_alloc ?_ _)); refine blk_put (cs := #[.int .i64 0, .int .i64 0, .slice none 0 0, .int .i64 0]) ?_ 0 _ rfl; (with_reducible repeat (first | refine blk_drewN ?_ _ | refine blk_drew ?_ | refine blk_alloc ?_ _)); exact BK303.out) hb); have n6_ := Aside0.mk (below_step (by repeat (first | (with_reducible first | exact HB.out | apply below_alloc | apply pw_below_drewN | apply below_drew1 | refine below_set ?_ GE290.out | refine below_set ?_ GE303.out) | exact HB.out)) hb); clear HO289; clear HO293; clear HO298; clear BK290; clear BK303; clear HB; have HO289 := n0_; have HO293 := n1_; have HO298 := n2_; have HO306 := n3_; have BK290 := n4_; have BK303 := n5_; have HB := n6_; clear n0_ n1_ n2_ n3_ n4_ n5_ n6_; clear hb ho126; obtain ⟨Aox25i0, cox25i0, eox25i0⟩ := Kd.R_slice HO306.out; subst eox25i0) | ((with_reducible refine gate_dst (N := 25) rfl ?_); (try (refine gate_guard (by rfl) ?_; dsimp only)); refine Kd.R_lit (Kd.int .i64) _ 3 ?hg (N := 25) ?hd (xs := ([3, 3, 1] : List Int)) (inner := [.int .i64 3, .int .i64 3, .int .i64 1]) (ok := fun _ => True) (okp := fun _ => True) ?hr ?hp (fun _ hk => hk) trivial (Below.refl _ _) (Nat.le_refl _) (by simp) ?_; (case hd => rfl); (case hg => rfl); (case hr => first | (go_simp; done) | (go_simp; rfl)); (case hp => exact (Reps.one (show Kd.M (Kd.int .i64) _ _ _ 3 [.int .i64 3] from rfl) (Reps.one (show Kd.M (Kd.int .i64) _ _ _ 3 [.int .i64 3] from rfl) (Reps.one (show Kd.M (Kd.int .i64) _ _ _ 1 [.int .i64 1] from rfl) (Reps.none _ _))))); intro v305 wx25i0 ho150 hb hg_ hnew_; clear hg_ hnew_; (first | rw [← Ny304.out] at ho150 | (simp only [Int.reduceToNat] at ho150; rw [← Ny304.out] at ho150)); have n0_ := Aside0.mk (Kd.R_below (by (with_reducible repeat (first | apply Kd.R_alloc | apply Kd.R_drewN | apply Kd.R_drew)); exact (Kd.R_mono (Kd.R_far (p := ⟨gb303, 3, none⟩) (Kd.R_far (p := ⟨gb303, 2, none⟩) (Kd.R_far (p := ⟨gb303, 1, none⟩) (Kd.R_far (p := ⟨gb303, 0, none⟩) (Kd.R_types HO289.out BK303.out (by decide)) (fun _ hk => hk.2) (.int .i64 t294)) (fun _ hk => hk.2) (.int .i64 t295)) (fun _ hk => hk.2) (.slice Aox2i0 t296.length cox2i0)) (fun _ hk => hk.2) (.int .i64 t299)) (fun _ h_ => h_.1))) hb); have n1_ := Aside0.mk (Kd.R_below (by (with_reducible repeat (first | apply Kd.R_alloc | apply Kd.R_drewN | apply Kd.R_drew)); exact (Kd.R_mono (Kd.R_far (p := ⟨gb303, 3, none⟩) (Kd.R_far (p := ⟨gb303, 2, none⟩) (Kd.R_far (p := ⟨gb303, 1, none⟩) (Kd.R_far (p := ⟨gb303, 0, none⟩) (Kd.R_types HO293.out BK303.out (by decide)) (fun _ hk => hk.2) (.int .i64 t294)) (fun _ hk => hk.2) (.int .i64 t295)) (fun _ hk => hk.2) (.slice Aox2i0 t296.length cox2i0)) (fun _ hk => hk.2) (.int .i64 t299)) (fun _ h_ => h_.1))) hb); have n2_ := Aside0.mk (Kd.R_below (by (with_reducible repeat (first | apply Kd.R_alloc | apply Kd.R_drewN | apply Kd.R_drew)); exact (Kd.R_mono (Kd.R_far (p := ⟨gb303, 3, none⟩) (Kd.R_far (p := ⟨gb303, 2, none⟩) (Kd.R_far (p := ⟨gb303, 1, none⟩) (Kd.R_far (p := ⟨gb303, 0, none⟩) (Kd.R_types HO298.out BK303.out (by decide)) (fun _ hk => hk.2) (.int .i64 t294)) (fun _ hk => hk.2) (.int .i64 t295)) (fun _ hk => hk.2) (.slice Aox2i0 t296.length cox2i0)) (fun _ hk => hk.2) (.int .i64 t299)) (fun _ h_ => h_.1))) hb); have n3_ := Aside0.mk (Kd.R_lower ho150 (below_size (by repeat (first | (with_reducible first | exact HB.out | apply below_alloc | apply pw_below_drewN | apply below_drew1 | refine below_set ?_ GE290.out | refine below_set ?_ GE303.out) | exact HB.out)))); have n4_ := Aside0.mk (blk_below (g := gb290) (o := .cells #[.int .i64 0, .int .i64 0, .slice Aox11i0 y287.length cox11i0, .int .i64 0] 26 (0, 0)) (by (with_reducible repeat (first | refine blk_drewN ?_ _ | refine blk_drew ?_ | refine blk_alloc ?_ _)); refine blk_far ?_ NB290_303.out _; (with_reducible repeat (first | refine blk_drewN ?_ _ | refine blk_drew ?_ | refine blk_alloc ?_ _)); refine blk_far ?_ NB290_303.out _; (with_reducible repeat (first | refine blk_drewN ?_ _ | refine blk_drew ?_ | refine blk_alloc ?_ _)); refine blk_far ?_ NB290_303.out _; (with_reducible repeat (first | refine blk_drewN ?_ _ | refine blk_drew ?_ | refine blk_alloc ?_ _)); refine blk_far ?_ NB290_303.out _; (with_reducible repeat (first | refine blk_drewN ?_ _ | refine blk_drew ?_ | refine blk_alloc ?_ _)); exact BK290.out) hb); have n5_ := Aside0.mk (blk_below (g := gb303) (o := .cells #[.int .i64 t294, .int .i64 t295, .slice Aox2i0 t296.length cox2i0, .int .i64 t299] 26 (0, 0)) (by (with_reducible repeat (first | refine blk_drewN ?_ _ | refine blk_drew ?_ | refine blk_alloc ?_ _)); refine blk_put (cs := #[.int .i64 t294, .int .i64 t295, .slice Aox2i0 t296.length cox2i0, .int .i64 0]) ?_ 3 _ rfl; (with_reducible repeat (first | refine blk_drewN ?_ _ | refine blk_drew ?_ | refine blk_alloc ?_ _)); refine blk_put (cs := #[.int .i64 t294, .int .i64 t295, .slice none 0 0, .int .i64 0]) ?_ 2 _ rfl; (with_reducible repeat (first | refine blk_drewN ?_ _ | refine blk_drew ?_ | refine blk_alloc ?_ _)); refine blk_put (cs := #[.int .i64 t294, .int .i64 0, .slice none 0 0, .int .i64 0]) ?_ 1 _ rfl; (with_reducible repeat (first | refine blk_drewN ?_ _ | refine blk_drew ?_ | refine blk_alloc ?_ _)); refine blk_put (cs := #[.int .i64 0, .int .i64 0, .slice none 0 0, .int .i64 0]) ?_ 0 _ rfl; (with_reducible repeat (first | refine blk_drewN ?_ _ | refine blk_drew ?_ | refine blk_alloc ?_ _)); exact BK303.out) hb); have n6_ := Aside0.mk (below_step (by repeat (first | (with_reducible first | exact HB.out | apply below_alloc | apply pw_below_drewN | apply below_drew1 | refine below_set ?_ GE290.out | refine below_set ?_ GE303.out) | exact HB.out)) hb); clear HO289; clear HO293; clear HO298; clear BK290; clear BK303; clear HB; have HO289 := n0_; have HO293 := n1_; have HO298 := n2_; have HO306 := n3_; have BK290 := n4_; have BK303 := n5_; have HB := n6_; clear n0_ n1_ n2_ n3_ n4_ n5_ n6_; clear hb ho150; obtain ⟨Aox25i0, cox25i0, eox25i0⟩ := Kd.R_slice HO306.out; subst eox25i0) | ((with_reducible refine gate_dst (N := 25) rfl ?_); (try (refine gate_guard (by rfl) ?_; dsimp only)); refine Kd.R_lit (Kd.int .i64) _ 3 ?hg (N := 25) ?hd (xs := ([3, 3, 1] : List Int)) (inner := [.int .i64 3, .int .i64 3, .int .i64 1]) (ok := fun _ => True) (okp := fun _ => True) ?hr ?hp (fun _ hk => hk) trivial (Below.refl _ _) (Nat.le_refl _) (by simp) ?_; (case hd => rfl); (case hg => rfl); (case hr => first | (go_simp; done) | (go_simp; rfl)); (case hp => exact (Reps.one (show Kd.M (Kd.int .i64) _ _ _ 3 [.int .i64 3] from rfl) (Reps.one (show Kd.M (Kd.int .i64) _ _ _ 3 [.int .i64 3] from rfl) (Reps.one (show Kd.M (Kd.int .i64) _ _ _ 1 [.int .i64 1] from rfl) (Reps.none _ _))))); intro v305 wx25i0 ho174 hb hg_ hnew_; clear hg_ hnew_; (first | rw [← Ny304.out] at ho174 | (simp only [Int.reduceToNat] at ho174; rw [← Ny304.out] at ho174)); have n0_ := Aside0.mk (Kd.R_below (by (with_reducible repeat (first | apply Kd.R_alloc | apply Kd.R_drewN | apply Kd.R_drew)); exact (Kd.R_mono (Kd.R_far (p := ⟨gb303, 3, none⟩) (Kd.R_far (p := ⟨gb303, 2, none⟩) (Kd.R_far (p := ⟨gb303, 1, none⟩) (Kd.R_far (p := ⟨gb303, 0, none⟩) (Kd.R_types HO289.out BK303.out (by decide)) (fun _ hk => hk.2) (.int .i64 t294)) (fun _ hk => hk.2) (.int .i64 t295)) (fun _ hk => hk.2) (.slice Aox2i0 t296.length cox2i0)) (fun _ hk => hk.2) (.int .i64 t299)) (fun _ h_ => h_.1))) hb); have n1_ := Aside0.mk (Kd.R_below (by (with_reducible repeat (first | apply Kd.R_alloc | apply Kd.R_drewN | apply Kd.R_drew)); exact (Kd.R_mono (Kd.R_far (p := ⟨gb303, 3, none⟩) (Kd.R_far (p := ⟨gb303, 2, none⟩) (Kd.R_far (p := ⟨gb303, 1, none⟩) (Kd.R_far (p := ⟨gb303, 0, none⟩) (Kd.R_types HO293.out BK303.out (by decide)) (fun _ hk => hk.2) (.int .i64 t294)) (fun _ hk => hk.2) (.int .i64 t295)) (fun _ hk => hk.2) (.slice Aox2i0 t296.length cox2i0)) (fun _ hk => hk.2) (.int .i64 t299)) (fun _ h_ => h_.1))) hb); have n2_ := Aside0.mk (Kd.R_below (by (with_reducible repeat (first | apply Kd.R_alloc | apply Kd.R_drewN | apply Kd.R_drew)); exact (Kd.R_mono (Kd.R_far (p := ⟨gb303, 3, none⟩) (Kd.R_far (p := ⟨gb303, 2, none⟩) (Kd.R_far (p := ⟨gb303, 1, none⟩) (Kd.R_far (p := ⟨gb303, 0, none⟩) (Kd.R_types HO298.out BK303.out (by decide)) (fun _ hk => hk.2) (.int .i64 t294)) (fun _ hk => hk.2) (.int .i64 t295)) (fun _ hk => hk.2) (.slice Aox2i0 t296.length cox2i0)) (fun _ hk => hk.2) (.int .i64 t299)) (fun _ h_ => h_.1))) hb); have n3_ := Aside0.mk (Kd.R_lower ho174 (below_size (by repeat (first | (with_reducible first | exact HB.out | apply below_alloc | apply pw_below_drewN | apply below_drew1 | refine below_set ?_ GE290.out | refine below_set ?_ GE303.out) | exact HB.out)))); have n4_ := Aside0.mk (blk_below (g := gb290) (o := .cells #[.int .i64 0, .int .i64 0, .slice Aox11i0 y287.length cox11i0, .int .i64 0] 26 (0, 0)) (by (with_reducible repeat (first | refine blk_drewN ?_ _ | refine blk_drew ?_ | refine blk_alloc ?_ _)); refine blk_far ?_ NB290_303.out _; (with_reducible repeat (first | refine blk_drewN ?_ _ | refine blk_drew ?_ | refine blk_alloc ?_ _)); refine blk_far ?_ NB290_303.out _; (with_reducible repeat (first | refine blk_drewN ?_ _ | refine blk_drew ?_ | refine blk_alloc ?_ _)); refine blk_far ?_ NB290_303.out _; (with_reducible repeat (first | refine blk_drewN ?_ _ | refine blk_drew ?_ | refine blk_alloc ?_ _)); refine blk_far ?_ NB290_303.out _; (with_reducible repeat (first | refine blk_drewN ?_ _ | refine blk_drew ?_ | refine blk_alloc ?_ _)); exact BK290.out) hb); have n5_ := Aside0.mk (blk_below (g := gb303) (o := .cells #[.int .i64 t294, .int .i64 t295, .slice Aox2i0 t296.length cox2i0, .int .i64 t299] 26 (0, 0)) (by (with_reducible repeat (first | refine blk_drewN ?_ _ | refine blk_drew ?_ | refine blk_alloc ?_ _)); refine blk_put (cs := #[.int .i64 t294, .int .i64 t295, .slice Aox2i0 t296.length cox2i0, .int .i64 0]) ?_ 3 _ rfl; (with_reducible repeat (first | refine blk_drewN ?_ _ | refine blk_drew ?_ | refine blk_alloc ?_ _)); refine blk_put (cs := #[.int .i64 t294, .int .i64 t295, .slice none 0 0, .int .i64 0]) ?_ 2 _ rfl; (with_reducible repeat (first | refine blk_drewN ?_ _ | refine blk_drew ?_ | refine blk_alloc ?_ _)); refine blk_put (cs := #[.int .i64 t294, .int .i64 0, .slice none 0 0, .int .i64 0]) ?_ 1 _ rfl; (with_reducible repeat (first | refine blk_drewN ?_ _ | refine blk_drew ?_ | refine blk_alloc ?_ _)); refine blk_put (cs := #[.int .i64 0, .int .i64 0, .slice none 0 0, .int .i64 0]) ?_ 0 _ rfl; (with_reducible repeat (first | refine blk_drewN ?_ _ | refine blk_drew ?_ | refine blk_alloc ?_ _)); exact BK303.out) hb); have n6_ := Aside0.mk (below_step (by repeat (first | (with_reducible first | exact HB.out | apply below_alloc | apply pw_below_drewN | apply below_drew1 | refine below_set ?_ GE290.out | refine below_set ?_ GE303.out) | exact HB.out)) hb); clear HO289; clear HO293; clear HO298; clear BK290; clear BK303; clear HB; have HO289 := n0_; have HO293 := n1_; have HO298 := n2_; have HO306 := n3_; have BK290 := n4_; have BK303 := n5_; have HB := n6_; clear n0_ n1_ n2_ n3_ n4_ n5_ n6_; clear hb ho174; obtain ⟨Aox25i0, cox25i0, eox25i0⟩ := Kd.R_slice HO306.out; subst eox25i0) | ((with_reducible refine gate_dst (N := 25) rfl ?_); (try (refine gate_guard (by rfl) ?_; dsimp only)); refine Kd.R_lit (Kd.int .i64) _ 3 ?hg (N := 25) ?hd (xs := ([3, 3, 1] : List Int)) (inner := [.int .i64 3, .int .i64 3, .int .i64 1]) (ok := fun _ => True) (okp := fun _ => True) ?hr ?hp (fun _ hk => hk) trivial (Below.refl _ _) (Nat.le_refl _) (by simp) ?_; (case hd => rfl); (case hg => rfl); (case hr => first | (go_simp; done) | (go_simp; rfl)); (case hp => exact (Reps.one (show Kd.M (Kd.int .i64) _ _ _ 3 [.int .i64 3] from rfl) (Reps.one (show Kd.M (Kd.int .i64) _ _ _ 3 [.int .i64 3] from rfl) (Reps.one (show Kd.M (Kd.int .i64) _ _ _ 1 [.int .i64 1] from rfl) (Reps.none _ _))))); intro v305 wx25i0 ho197 hb hg_ hnew_; clear hg_ hnew_; (first | rw [← Ny304.out] at ho197 | (simp only [Int.reduceToNat] at ho197; rw [← Ny304.out] at ho197)); have n0_ := Aside0.mk (Kd.R_below (by (with_reducible repeat (first | apply Kd.R_alloc | apply Kd.R_drewN | apply Kd.R_drew)); exact (Kd.R_mono (Kd.R_far (p := ⟨gb303, 3, none⟩) (Kd.R_far (p := ⟨gb303, 2, none⟩) (Kd.R_far (p := ⟨gb303, 1, none⟩) (Kd.R_far (p := ⟨gb303, 0, none⟩) (Kd.R_types HO289.out BK303.out (by decide)) (fun _ hk => hk.2) (.int .i64 t294)) (fun _ hk => hk.2) (.int .i64 t295)) (fun _ hk => hk.2) (.slice Aox2i0 t296.length cox2i0)) (fun _ hk => hk.2) (.int .i64 t299)) (fun _ h_ => h_.1))) hb); have n1_ := Aside0.mk (Kd.R_below (by (with_reducible repeat (first | apply Kd.R_alloc | apply Kd.R_drewN | apply Kd.R_drew)); exact (Kd.R_mono (Kd.R_far (p := ⟨gb303, 3, none⟩) (Kd.R_far (p := ⟨gb303, 2, none⟩) (Kd.R_far (p := ⟨gb303, 1, none⟩) (Kd.R_far (p := ⟨gb303, 0, none⟩) (Kd.R_types HO293.out BK303.out (by decide)) (fun _ hk => hk.2) (.int .i64 t294)) (fun _ hk => hk.2) (.int .i64 t295)) (fun _ hk => hk.2) (.slice Aox2i0 t296.length cox2i0)) (fun _ hk => hk.2) (.int .i64 t299)) (fun _ h_ => h_.1))) hb); have n2_ := Aside0.mk (Kd.R_below (by (with_reducible repeat (first | apply Kd.R_alloc | apply Kd.R_drewN | apply Kd.R_drew)); exact (Kd.R_mono (Kd.R_far (p := ⟨gb303, 3, none⟩) (Kd.R_far (p := ⟨gb303, 2, none⟩) (Kd.R_far (p := ⟨gb303, 1, none⟩) (Kd.R_far (p := ⟨gb303, 0, none⟩) (Kd.R_types HO298.out BK303.out (by decide)) (fun _ hk => hk.2) (.int .i64 t294)) (fun _ hk => hk.2) (.int .i64 t295)) (fun _ hk => hk.2) (.slice Aox2i0 t296.length cox2i0)) (fun _ hk => hk.2) (.int .i64 t299)) (fun _ h_ => h_.1))) hb); have n3_ := Aside0.mk (Kd.R_lower ho197 (below_size (by repeat (first | (with_reducible first | exact HB.out | apply below_alloc | apply pw_below_drewN | apply below_drew1 | refine below_set ?_ GE290.out | refine below_set ?_ GE303.out) | exact HB.out)))); have n4_ := Aside0.mk (blk_below (g := gb290) (o := .cells #[.int .i64 0, .int .i64 0, .slice Aox11i0 y287.length cox11i0, .int .i64 0] 26 (0, 0)) (by (with_reducible repeat (first | refine blk_drewN ?_ _ | refine blk_drew ?_ | refine blk_alloc ?_ _)); refine blk_far ?_ NB290_303.out _; (with_reducible repeat (first | refine blk_drewN ?_ _ | refine blk_drew ?_ | refine blk_alloc ?_ _)); refine blk_far ?_ NB290_303.out _; (with_reducible repeat (first | refine blk_drewN ?_ _ | refine blk_drew ?_ | refine blk_alloc ?_ _)); refine blk_far ?_ NB290_303.out _; (with_reducible repeat (first | refine blk_drewN ?_ _ | refine blk_drew ?_ | refine blk_alloc ?_ _)); refine blk_far ?_ NB290_303.out _; (with_reducible repeat (first | refine blk_drewN ?_ _ | refine blk_drew ?_ | refine blk_alloc ?_ _)); exact BK290.out) hb); have n5_ := Aside0.mk (blk_below (g := gb303) (o := .cells #[.int .i64 t294, .int .i64 t295, .slice Aox2i0 t296.length cox2i0, .int .i64 t299] 26 (0, 0)) (by (with_reducible repeat (first | refine blk_drewN ?_ _ | refine blk_drew ?_ | refine blk_alloc ?_ _)); refine blk_put (cs := #[.int .i64 t294, .int .i64 t295, .slice Aox2i0 t296.length cox2i0, .int .i64 0]) ?_ 3 _ rfl; (with_reducible repeat (first | refine blk_drewN ?_ _ | refine blk_drew ?_ | refine blk_alloc ?_ _)); refine blk_put (cs := #[.int .i64 t294, .int .i64 t295, .slice none 0 0, .int .i64 0]) ?_ 2 _ rfl; (with_reducible repeat (first | refine blk_drewN ?_ _ | refine blk_drew ?_ | refine blk_alloc ?_ _)); refine blk_put (cs := #[.int .i64 t294, .int .i64 0, .slice none 0 0, .int .i64 0]) ?_ 1 _ rfl; (with_reducible repeat (first | refine blk_drewN ?_ _ | refine blk_drew ?_ | refine blk_alloc ?_ _)); refine blk_put (cs := #[.int .i64 0, .int .i64 0, .slice none 0 0, .int .i64 0]) ?_ 0 _ rfl; (with_reducible repeat (first | refine blk_drewN ?_ _ | refine blk_drew ?_ | refine blk_alloc ?_ _)); exact BK303.out) hb); have n6_ := Aside0.mk (below_step (by repeat (first | (with_reducible first | exact HB.out | apply below_alloc | apply pw_below_drewN | apply below_drew1 | refine below_set ?_ GE290.out | refine below_set ?_ GE303.out) | exact HB.out)) hb); clear HO289; clear HO293; clear HO298; clear BK290; clear BK303; clear HB; have HO289 := n0_; have HO293 := n1_; have HO298 := n2_; have HO306 := n3_; have BK290 := n4_; have BK303 := n5_; have HB := n6_; clear n0_ n1_ n2_ n3_ n4_ n5_ n6_; clear hb ho197; obtain ⟨Aox25i0, cox25i0, eox25i0⟩ := Kd.R_slice HO306.out; subst eox25i0) | ((with_reducible refine gate_dst (N := 25) rfl ?_); (try (refine gate_guard (by rfl) ?_; dsimp only)); refine Kd.R_lit (Kd.int .i64) _ 3 ?hg (N := 25) ?hd (xs := ([3, 3, 1] : List Int)) (inner := [.int .i64 3, .int .i64 3, .int .i64 1]) (ok := fun _ => True) (okp := fun _ => True) ?hr ?hp (fun _ hk => hk) trivial (Below.refl _ _) (Nat.le_refl _) (by simp) ?_; (case hd => rfl); (case hg => rfl); (case hr => first | (go_simp; done) | (go_simp; rfl)); (case hp => exact (Reps.one (show Kd.M (Kd.int .i64) _ _ _ 3 [.int .i64 3] from rfl) (Reps.one (show Kd.M (Kd.int .i64) _ _ _ 3 [.int .i64 3] from rfl) (Reps.one (show Kd.M (Kd.int .i64) _ _ _ 1 [.int .i64 1] from rfl) (Reps.none _ _))))); intro v305 wx25i0 ho220 hb hg_ hnew_; clear hg_ hnew_; (first | rw [← Ny304.out] at ho220 | (simp only [Int.reduceToNat] at ho220; rw [← Ny304.out] at ho220)); have n0_ := Aside0.mk (Kd.R_below (by (with_reducible repeat (first | apply Kd.R_alloc | apply Kd.R_drewN | apply Kd.R_drew)); exact (Kd.R_mono (Kd.R_far (p := ⟨gb303, 3, none⟩) (Kd.R_far (p := ⟨gb303, 2, none⟩) (Kd.R_far (p := ⟨gb303, 1, none⟩) (Kd.R_far (p := ⟨gb303, 0, none⟩) (Kd.R_types HO289.out BK303.out (by decide)) (fun _ hk => hk.2) (.int .i64 t294)) (fun _ hk => hk.2) (.int .i64 t295)) (fun _ hk => hk.2) (.slice Aox2i0 t296.length cox2i0)) (fun _ hk => hk.2) (.int .i64 t299)) (fun _ h_ => h_.1))) hb); have n1_ := Aside0.mk (Kd.R_below (by (with_reducible repeat (first | apply Kd.R_alloc | apply Kd.R_drewN | apply Kd.R_drew)); exact (Kd.R_mono (Kd.R_far (p := ⟨gb303, 3, none⟩) (Kd.R_far (p := ⟨gb303, 2, none⟩) (Kd.R_far (p := ⟨gb303, 1, none⟩) (Kd.R_far (p := ⟨gb303, 0, none⟩) (Kd.R_types HO293.out BK303.out (by decide)) (fun _ hk => hk.2) (.int .i64 t294)) (fun _ hk => hk.2) (.int .i64 t295)) (fun _ hk => hk.2) (.slice Aox2i0 t296.length cox2i0)) (fun _ hk => hk.2) (.int .i64 t299)) (fun _ h_ => h_.1))) hb); have n2_ := Aside0.mk (Kd.R_below (by (with_reducible repeat (first | apply Kd.R_alloc | apply Kd.R_drewN | apply Kd.R_drew)); exact (Kd.R_mono (Kd.R_far (p := ⟨gb303, 3, none⟩) (Kd.R_far (p := ⟨gb303, 2, none⟩) (Kd.R_far (p := ⟨gb303, 1, none⟩) (Kd.R_far (p := ⟨gb303, 0, none⟩) (Kd.R_types HO298.out BK303.out (by decide)) (fun _ hk => hk.2) (.int .i64 t294)) (fun _ hk => hk.2) (.int .i64 t295)) (fun _ hk => hk.2) (.slice Aox2i0 t296.length cox2i0)) (fun _ hk => hk.2) (.int .i64 t299)) (fun _ h_ => h_.1))) hb); have n3_ := Aside0.mk (Kd.R_lower ho220 (below_size (by repeat (first | (with_reducible first | exact HB.out | apply below_alloc | apply pw_below_drewN | apply below_drew1 | refine below_set ?_ GE290.out | refine below_set ?_ GE303.out) | exact HB.out)))); have n4_ := Aside0.mk (blk_below (g := gb290) (o := .cells #[.int .i64 0, .int .i64 0, .slice Aox11i0 y287.length cox11i0, .int .i64 0] 26 (0, 0)) (by (with_reducible repeat (first | refine blk_drewN ?_ _ | refine blk_drew ?_ | refine blk_alloc ?_ _)); refine blk_far ?_ NB290_303.out _; (with_reducible repeat (first | refine blk_drewN ?_ _ | refine blk_drew ?_ | refine blk_alloc ?_ _)); refine blk_far ?_ NB290_303.out _; (with_reducible repeat (first | refine blk_drewN ?_ _ | refine blk_drew ?_ | refine blk_alloc ?_ _)); refine blk_far ?_ NB290_303.out _; (with_reducible repeat (first | refine blk_drewN ?_ _ | refine blk_drew ?_ | refine blk_alloc ?_ _)); refine blk_far ?_ NB290_303.out _; (with_reducible repeat (first | refine blk_drewN ?_ _ | refine blk_drew ?_ | refine blk_alloc ?_ _)); exact BK290.out) hb); have n5_ := Aside0.mk (blk_below (g := gb303) (o := .cells #[.int .i64 t294, .int .i64 t295, .slice Aox2i0 t296.length cox2i0, .int .i64 t299] 26 (0, 0)) (by (with_reducible repeat (first | refine blk_drewN ?_ _ | refine blk_drew ?_ | refine blk_alloc ?_ _)); refine blk_put (cs := #[.int .i64 t294, .int .i64 t295, .slice Aox2i0 t296.length cox2i0, .int .i64 0]) ?_ 3 _ rfl; (with_reducible repeat (first | refine blk_drewN ?_ _ | refine blk_drew ?_ | refine blk_alloc ?_ _)); refine blk_put (cs := #[.int .i64 t294, .int .i64 t295, .slice none 0 0, .int .i64 0]) ?_ 2 _ rfl; (with_reducible repeat (first | refine blk_drewN ?_ _ | refine blk_drew ?_ | refine blk_alloc ?_ _)); refine blk_put (cs := #[.int .i64 t294, .int .i64 0, .slice none 0 0, .int .i64 0]) ?_ 1 _ rfl; (with_reducible repeat (first | refine blk_drewN ?_ _ | refine blk_drew ?_ | refine blk_alloc ?_ _)); refine blk_put (cs := #[.int .i64 0, .int .i64 0, .slice none 0 0, .int .i64 0]) ?_ 0 _ rfl; (with_reducible repeat (first | refine blk_drewN ?_ _ | refine blk_drew ?_ | refine blk_alloc ?_ _)); exact BK303.out) hb); have n6_ := Aside0.mk (below_step (by repeat (first | (with_reducible first | exact HB.out | apply below_alloc | apply pw_below_drewN | apply below_drew1 | refine below_set ?_ GE290.out | refine below_set ?_ GE303.out) | exact HB.out)) hb); clear HO289; clear HO293; clear HO298; clear BK290; clear BK303; clear HB; have HO289 := n0_; have HO293 := n1_; have HO298 := n2_; have HO306 := n3_; have BK290 := n4_; have BK303 := n5_; have HB := n6_; clear n0_ n1_ n2_ n3_ n4_ n5_ n6_; clear hb ho220; obtain ⟨Aox25i0, cox25i0, eox25i0⟩ := Kd.R_slice HO306.out; subst eox25i0) | ((with_reducible refine gate_callee (f := 25) rfl ?_); refine goesL_ (some 26) rfl rfl Try.func25 (by kernel_rfl) rfl #[.agg #[.int .i64 0, .int .i64 0, .slice Aox11i0 y287.length cox11i0, .int .i64 0], .int .i64 2, .slice Aox25i0 y304.length cox25i0] rfl (by (try simp only [List.map_toArray, List.map_cons, List.map_nil]); first | done | rfl | (simp only [List.length_drop, List.length_take]; rfl)) ?_; (with_reducible refine (entries_Advance.calls k 0 0 _ _ y287 0 2 _ _ y304 t307 t308 t309 t312 t313 _ ?side1 ?side2 ?side3 ?side4 A2.out).mono ?_); (case side1 => repeat (first | exact (Kd.R_reads' HO289.out).2.2 | (with_reducible refine Kd.C_alloc ?_ _) | (with_reducible refine Kd.C_drewN ?_ _) | (with_reducible refine Kd.C_drew ?_))); (case side2 => exact (Kd.R_reads' HO289.out).2.1); (case side3 => repeat (first | exact (Kd.R_reads' HO306.out).2.2 | (with_reducible refine Kd.C_alloc ?_ _) | (with_reducible refine Kd.C_drewN ?_ _) | (with_reducible refine Kd.C_drew ?_))); (case side4 => exact (Kd.R_reads' HO306.out).2.1); rintro e wx26i0 ⟨v310, rfl, ho0, hb⟩; refine ⟨_, rfl, ?_⟩; have n0_ := Aside0.mk (Kd.R_elder' (by (with_reducible repeat (first | apply Kd.R_alloc | apply Kd.R_drewN | apply Kd.R_drew)); exact HO289.out) (Kd.R_base ho0) hb); have n1_ := Aside0.mk (Kd.R_elder' (by (with_reducible repeat (first | apply Kd.R_alloc | apply Kd.R_drewN | apply Kd.R_drew)); exact HO293.out) (Kd.R_base ho0) hb); have n2_ := Aside0.mk (Kd.R_elder' (by (with_reducible repeat (first | apply Kd.R_alloc | apply Kd.R_drewN | apply Kd.R_drew)); exact HO298.out) (Kd.R_base ho0) hb); have n3_ := Aside0.mk (Kd.R_below (by (with_reducible repeat (first | apply Kd.R_alloc | apply Kd.R_drewN | apply Kd.R_drew)); exact HO306.out) hb); have n4_ := Aside0.mk (Kd.R_lower (Kd.R_new' (Kd.R_new' (Kd.R_new' ho0 (Kd.R_lt (by (with_reducible repeat (first | apply Kd.R_alloc | apply Kd.R_drewN | apply Kd.R_drew)); exact HO289.out))) (Kd.R_lt (by (with_reducible repeat (first | apply Kd.R_alloc | apply Kd.R_drewN | apply Kd.R_drew)); exact HO293.out))) (Kd.R_lt (by (with_reducible repeat (first | apply Kd.R_alloc | apply Kd.R_drewN | apply Kd.R_drew)); exact HO298.out))) (below_size (by repeat (first | (with_reducible first | exact HB.out | apply below_alloc | apply pw_below_drewN | apply below_drew1 | refine below_set ?_ GE290.out | refine below_set ?_ GE303.out) | exact HB.out)))); have n5_ := Aside0.mk (blk_below (g := gb290) (o := .cells #[.int .i64 0, .int .i64 0, .slice Aox11i0 y287.length cox11i0, .int .i64 0] 26 (0, 0)) (by (with_reducible repeat (first | refine blk_drewN ?_ _ | refine blk_drew ?_ | refine blk_alloc ?_ _)); exact BK290.out) hb); have n6_ := Aside0.mk (blk_below (g := gb303) (o := .cells #[.int .i64 t294, .int .i64 t295, .slice Aox2i0 t296.length cox2i0, .int .i64 t299] 26 (0, 0)) (by (with_reducible repeat (first | refine blk_drewN ?_ _ | refine blk_drew ?_ | refine blk_alloc ?_ _)); exact BK303.out) hb); have n7_ := Aside0.mk (below_step (by repeat (first | (with_reducible first | exact HB.out | apply below_alloc | apply pw_below_drewN | apply below_drew1 | refine below_set ?_ GE290.out | refine below_set ?_ GE303.out) | exact HB.out)) hb); clear HO289; clear HO293; clear HO298; clear HO306; clear BK290; clear BK303; clear HB; have HO289 := n0_; have HO293 := n1_; have HO298 := n2_; have HO306 := n3_; have HO311 := n4_; have BK290 := n5_; have BK303 := n6_; have HB := n7_; clear n0_ n1_ n2_ n3_ n4_ n5_ n6_ n7_; (try clear hb); (try clear hb2); (try clear hk); (try clear hi); (try clear ho0)) | ((with_reducible refine gate_dst (N := 6) rfl ?_); (try (refine gate_guard (by rfl) ?_; dsimp only)); refine box_event ?hg (N := 6) ?hd (cs := #[.int .i64 0, .int .i64 0, .slice none 0 0, .int .i64 0]) (t := 26) ?hr ?_; (case hd => rfl); (case hg => rfl); (case hr => first | (go_simp; done) | (go_simp; rfl)); intro gb314 hg wx6i0 hbox hb; have n0_ := Aside0.mk (Kd.R_below (by (with_reducible repeat (first | apply Kd.R_alloc | apply Kd.R_drewN | apply Kd.R_drew)); exact HO289.out) hb); have n1_ := Aside0.mk (Kd.R_below (by (with_reducible repeat (first | apply Kd.R_alloc | apply Kd.R_drewN | apply Kd.R_drew)); exact HO293.out) hb); have n2_ := Aside0.mk (Kd.R_below (by (with_reducible repeat (first | apply Kd.R_alloc | apply Kd.R_drewN | apply Kd.R_drew)); exact HO298.out) hb); have n3_ := Aside0.mk (Kd.R_below (by (with_reducible repeat (first | apply Kd.R_alloc | apply Kd.R_drewN | apply Kd.R_drew)); exact HO306.out) hb); have n4_ := Aside0.mk (Kd.R_below (by (with_reducible repeat (first | apply Kd.R_alloc | apply Kd.R_drewN | apply Kd.R_drew)); exact HO311.out) hb); have n5_ := Aside0.mk (blk_below (g := gb290) (o := .cells #[.int .i64 0, .int .i64 0, .slice Aox11i0 y287.length cox11i0, .int .i64 0] 26 (0, 0)) (by (with_reducible repeat (first | refine blk_drewN ?_ _ | refine blk_drew ?_ | refine blk_alloc ?_ _)); exact BK290.out) hb); have n6_ := Aside0.mk (blk_below (g := gb303) (o := .cells #[.int .i64 t294, .int .i64 t295, .slice Aox2i0 t296.length cox2i0, .int .i64 t299] 26 (0, 0)) (by (with_reducible repeat (first | refine blk_drewN ?_ _ | refine blk_drew ?_ | refine blk_alloc ?_ _)); exact BK303.out) hb); have n7_ := Aside0.mk (below_step (by repeat (first | (with_reducible first | exact HB.out | apply below_alloc | apply pw_below_drewN | apply below_drew1 | refine below_set ?_ GE290.out | refine below_set ?_ GE303.out) | exact HB.out)) hb); have n8_ := Aside0.mk (hbox); have n9_ := Aside0.mk ((by rw [hg]; exact (below_size (by repeat (first | (with_reducible first | exact HB.out | apply below_alloc | apply pw_below_drewN | apply below_drew1 | refine below_set ?_ GE290.out | refine below_set ?_ GE303.out) | exact HB.out))) : w.heap.size ≤ gb314)); have n10_ := Aside0.mk ((by rw [hg]; exact (below_size (by repeat (first | (with_reducible first | exact HB.out | apply below_alloc | apply pw_below_drewN | apply below_drew1 | refine below_set ?_ GE290.out | refine below_set ?_ GE303.out) | exact HB.out))) : w.heap.size ≤ gb314)); have n11_ := Aside0.mk ((by rw [hg]; exact Nat.ne_of_lt (blk_lt (g := gb290) (o := .cells #[.int .i64 0, .int .i64 0, .slice Aox11i0 y287.length cox11i0, .int .i64 0] 26 (0, 0)) (by (with_reducible repeat (first | refine blk_drewN ?_ _ | refine blk_drew ?_ | refine blk_alloc ?_ _)); exact BK290.out)) : gb290 ≠ gb314)); have n12_ := Aside0.mk ((by rw [hg]; exact Nat.ne_of_gt (blk_lt (g := gb290) (o := .cells #[.int .i64 0, .int .i64 0, .slice Aox11i0 y287.length cox11i0, .int .i64 0] 26 (0, 0)) (by (with_reducible repeat (first | refine blk_drewN ?_ _ | refine blk_drew ?_ | refine blk_alloc ?_ _)); exact BK290.out)) : gb314 ≠ gb290)); have n13_ := Aside0.mk ((by rw [hg]; exact Nat.ne_of_lt (blk_lt (g := gb303) (o := .cells #[.int .i64 t294, .int .i64 t295, .slice Aox2i0 t296.length cox2i0, .int .i64 t299] 26 (0, 0)) (by (with_reducible repeat (first | refine blk_drewN ?_ _ | refine blk_drew ?_ | refine blk_alloc ?_ _)); exact BK303.out)) : gb303 ≠ gb314)); have n14_ := Aside0.mk ((by rw [hg]; exact Nat.ne_of_gt (blk_lt (g := gb303) (o := .cells #[.int .i64 t294, .int .i64 t295, .slice Aox2i0 t296.length cox2i0, .int .i64 t299] 26 (0, 0)) (by (with_reducible repeat (first | refine blk_drewN ?_ _ | refine blk_drew ?_ | refine blk_alloc ?_ _)); exact BK303.out)) : gb314 ≠ gb303)); clear HO289; clear HO293; clear HO298; clear HO306; clear HO311; clear BK290; clear BK303; clear HB; have HO289 := n0_; have HO293 := n1_; have HO298 := n2_; have HO306 := n3_; have HO311 := n4_; have BK290 := n5_; have BK303 := n6_; have HB := n7_; have BK314 := n8_; have GW314 := n9_; have GE314 := n10_; have NB290_314 := n11_; have NB314_290 := n12_; have NB303_314 := n13_; have NB314_303 := n14_; clear n0_ n1_ n2_ n3_ n4_ n5_ n6_ n7_ n8_ n9_ n10_ n11_ n12_ n13_ n14_; clear hb hbox hg; have hnbx6b314_290 := NB314_290.out; have hncx6b290_314 := NB290_314.out; have hnbx6b314_303 := NB314_303.out; have hncx6b303_314 := NB303_314.out; have hczx6b314_0 : wx6i0.cell? ⟨gb314, 0, none⟩ = some (.int .i64 0) := (blk_cell BK314.out 0).trans rfl; have hczx6b314_1 : wx6i0.cell? ⟨gb314, 1, none⟩ = some (.int .i64 0) := (blk_cell BK314.out 1).trans rfl; have hczx6b314_2 : wx6i0.cell? ⟨gb314, 2, none⟩ = some (.slice none 0 0) := (blk_cell BK314.out 2).trans rfl; have hczx6b314_3 : wx6i0.cell? ⟨gb314, 3, none⟩ = some (.int .i64 0) := (blk_cell BK314.out 3).trans rfl; have hfzx6b314_0 := blk_frozen BK314.out 0; have hfzx6b314_1 := blk_frozen BK314.out 1; have hfzx6b314_2 := blk_frozen BK314.out 2; have hfzx6b314_3 := blk_frozen BK314.out 3; obtain ⟨Aox6i0, cox6i0, eox6i0⟩ := Kd.R_slice HO311.out; subst eox6i0; (try have hczx6b303_0 : wx6i0.cell? ⟨gb303, 0, none⟩ = some (.int .i64 t294) := (blk_cell BK303.out 0).trans rfl); (try have hczx6b303_1 : wx6i0.cell? ⟨gb303, 1, none⟩ = some (.int .i64 t295) := (blk_cell BK303.out 1).trans rfl); (try have hczx6b303_2 : wx6i0.cell? ⟨gb303, 2, none⟩ = some (.slice Aox2i0 t296.length cox2i0) := (blk_cell BK303.out 2).trans rfl); (try have hczx6b303_3 : wx6i0.cell? ⟨gb303, 3, none⟩ = some (.int .i64 t299) := (blk_cell BK303.out 3).trans rfl); (try have hfzx6b303_0 := blk_frozen BK303.out 0); (try have hfzx6b303_1 := blk_frozen BK303.out 1); (try have hfzx6b303_2 := blk_frozen BK303.out 2); (try have hfzx6b303_3 := blk_frozen BK303.out 3)))
      go_ret
      exact ⟨by first | rfl | (simp [errW_none, errW_some] <;> rfl) | (simp [*, errW_none, errW_some] <;> rfl), by repeat (first | (with_reducible first | exact HB.out | apply below_alloc | apply pw_below_drewN | apply below_drew1 | refine below_set ?_ GE290.out | refine below_set ?_ GE303.out | refine below_set ?_ GE314.out) | exact HB.out)⟩

end Go.Proofs.Ytiebeiloooblpaa.E
end
section
-- written by myprint.py, a program of this session over the kit's print.py
namespace Go.Proofs.Ytiebeiloooblpaa.E
open Go.RowKit Go.Proofs.YtiebeiloooblpaaW.PrintWords Go.Proofs.YtiebeiloooblpaaW.PrintLast Go.Proofs.YtiebeiloooblpaaW.PrintMore
attribute [local go_sem] max2_int min2_int max_two min_two max_three min_three max_four min_four   -- for this text's walks alone
set_option linter.unusedVariables false
set_option linter.unusedSimpArgs false

/-! ### rialtoref08_within: function 45 -/
def rialtoref08_within.f (a0 : Int) (a1 : Int) (a2 : Int) : Option (Bool) := if a0 ≥ a1 then (some (decide (a0 ≤ a2))) else (some false)
set_option maxHeartbeats 8000000 in
set_option maxRecDepth 100000 in
theorem rialtoref08_within.calls (a0 : Int) (a1 : Int) (a2 : Int) (r : Bool) (w : World) (h : rialtoref08_within.f a0 a1 a2 = some r) :
    Calls Try.prog 45 #[.int .i64 a0, .int .i64 a1, .int .i64 a2] w fun e w' => e = .returned (.bool r) ∧ Drawn0 w w' := by
  have H : (if a0 ≥ a1 then (some (decide (a0 ≤ a2))) else (some false)) = some r := h
  clear h
  by_cases c4 : a0 ≥ a1
  focus
    rw [if_pos c4] at H
    have c4b0 : decide (a1 ≤ a0) = true := decide_eq_true c4
    clear c4
    obtain rfl := Option.some.inj H
  rotate_left 1
  focus
    rw [if_neg c4] at H
    have c4b0 : decide (a1 ≤ a0) = false := decide_eq_false c4
    clear c4
    obtain rfl := Option.some.inj H
  rotate_left 1
  all_goals
    go_enter Try.func45, Try.ntmps45
    go_wp2
    go_ret
    exact ⟨by first | rfl | (simp; done) | (simp [*]; done), by repeat (first | exact Drawn0.refl _ | apply Drawn0.step)⟩

end Go.Proofs.Ytiebeiloooblpaa.E
end
section
-- written by myprint.py, a program of this session over the kit's print.py
namespace Go.Proofs.Ytiebeiloooblpaa.E
open Go.RowKit Go.Proofs.YtiebeiloooblpaaW.PrintWords Go.Proofs.YtiebeiloooblpaaW.PrintLast Go.Proofs.YtiebeiloooblpaaW.PrintMore
attribute [local go_sem] max2_int min2_int max_two min_two max_three min_three max_four min_four   -- for this text's walks alone
set_option linter.unusedVariables false
set_option linter.unusedSimpArgs false

/-! ### rialtoref07_within: function 54 -/
def rialtoref07_within.f (a0 : Int) (a1 : Int) (a2 : Int) : Option (Bool) := if a0 ≥ a1 then (some (decide (a0 ≤ a2))) else (some false)
set_option maxHeartbeats 8000000 in
set_option maxRecDepth 100000 in
theorem rialtoref07_within.calls (a0 : Int) (a1 : Int) (a2 : Int) (r : Bool) (w : World) (h : rialtoref07_within.f a0 a1 a2 = some r) :
    Calls Try.prog 54 #[.int .i64 a0, .int .i64 a1, .int .i64 a2] w fun e w' => e = .returned (.bool r) ∧ Drawn0 w w' := by
  have H : (if a0 ≥ a1 then (some (decide (a0 ≤ a2))) else (some false)) = some r := h
  clear h
  by_cases c4 : a0 ≥ a1
  focus
    rw [if_pos c4] at H
    have c4b0 : decide (a1 ≤ a0) = true := decide_eq_true c4
    clear c4
    obtain rfl := Option.some.inj H
  rotate_left 1
  focus
    rw [if_neg c4] at H
    have c4b0 : decide (a1 ≤ a0) = false := decide_eq_false c4
    clear c4
    obtain rfl := Option.some.inj H
  rotate_left 1
  all_goals
    go_enter Try.func54, Try.ntmps54
    go_wp2
    go_ret
    exact ⟨by first | rfl | (simp; done) | (simp [*]; done), by repeat (first | exact Drawn0.refl _ | apply Drawn0.step)⟩

end Go.Proofs.Ytiebeiloooblpaa.E
end
section
-- written by myprint.py, a program of this session over the kit's print.py
namespace Go.Proofs.Ytiebeiloooblpaa.E
open Go.RowKit Go.Proofs.YtiebeiloooblpaaW.PrintWords Go.Proofs.YtiebeiloooblpaaW.PrintLast Go.Proofs.YtiebeiloooblpaaW.PrintMore
attribute [local go_sem] max2_int min2_int max_two min_two max_three min_three max_four min_four   -- for this text's walks alone
set_option linter.unusedVariables false
set_option linter.unusedSimpArgs false

/-! ### rialtoref07_Mark: function 40 -/
def rialtoref07_Mark.f (a0_0 : Int) (a0_1 : Int) : Option (Bool) := (rialtoref07_within.f a0_0 0 1000000).bind fun t319 => (if t319 = true then ((rialtoref07_within.f a0_1 0 1000000).bind fun t320 => (if t320 = true then (some ((a0_0 == 0) == (a0_1 == 0))) else (some false))) else (some false))
set_option maxHeartbeats 8000000 in
set_option maxRecDepth 100000 in
theorem rialtoref07_Mark.calls (a0_0 : Int) (a0_1 : Int) (r : Bool) (w : World) (h : rialtoref07_Mark.f a0_0 a0_1 = some r) :
    Calls Try.prog 40 #[.agg #[.int .i64 a0_0, .int .i64 a0_1]] w fun e w' => e = .returned (.bool r) ∧ Below w.heap.size w w' := by
  have hu23 := Try.underlying23
  have HB := Aside0.mk (Below.refl w.heap.size w)
  have H : ((rialtoref07_within.f a0_0 0 1000000).bind fun t319 => (if t319 = true then ((rialtoref07_within.f a0_1 0 1000000).bind fun t320 => (if t320 = true then (some ((a0_0 == 0) == (a0_1 == 0))) else (some false))) else (some false))) = some r := h
  clear h
  replace H := Option.bind_eq_some_iff.mp H
  obtain ⟨t319, A20, H⟩ := H
  replace H : (if t319 = true then ((rialtoref07_within.f a0_1 0 1000000).bind fun t320 => (if t320 = true then (some ((a0_0 == 0) == (a0_1 == 0))) else (some false))) else (some false)) = some r := H
  have A2 := Aside0.mk A20
  clear A20
  by_cases c3 : t319 = true
  focus
    subst c3
    have H1 : ((rialtoref07_within.f a0_1 0 1000000).bind fun t320 => (if t320 = true then (some ((a0_0 == 0) == (a0_1 == 0))) else (some false))) = some r := by rw [if_pos rfl] at H; exact H
    clear H
    have H := H1
    clear H1
    replace H := Option.bind_eq_some_iff.mp H
    obtain ⟨t320, A40, H⟩ := H
    replace H : (if t320 = true then (some ((a0_0 == 0) == (a0_1 == 0))) else (some false)) = some r := H
    have A4 := Aside0.mk A40
    clear A40
    by_cases c5 : t320 = true
    focus
      subst c5
      have H1 : (some ((a0_0 == 0) == (a0_1 == 0))) = some r := by rw [if_pos rfl] at H; exact H
      clear H
      have H := H1
      clear H1
      obtain rfl := Option.some.inj H
    rotate_left 1
    focus
      replace c5 := Bool.eq_false_iff.mpr c5
      subst c5
      have H1 : (some false) = some r := by rw [if_neg (show ¬ (false = true) by decide)] at H; exact H
      clear H
      have H := H1
      clear H1
      obtain rfl := Option.some.inj H
    rotate_left 1
  rotate_left 2
  focus
    replace c3 := Bool.eq_false_iff.mpr c3
    subst c3
    have H1 : (some false) = some r := by rw [if_neg (show ¬ (false = true) by decide)] at H; exact H
    clear H
    have H := H1
    clear H1
    obtain rfl := Option.some.inj H
  rotate_left 1
  all_goals
    go_enter Try.func40, Try.ntmps40
    go_wp2_with (first | ((with_reducible refine gate_dst (N := 1) rfl ?_); refine box_event ?hg (N := 1) ?hd (cs := #[.int .i64 a0_0, .int .i64 a0_1]) (t := 23) ?hr ?_; (case hd => rfl); (case hg => rfl); (case hr => first | (go_simp; done) | (go_simp; rfl)); intro gb318 hg wx1i0 hbox hb; have n0_ := Aside0.mk (below_step (by repeat (first | (with_reducible first | exact HB.out | apply below_alloc | apply pw_below_drewN | apply below_drew1) | exact HB.out)) hb); have n1_ := Aside0.mk (hbox); have n2_ := Aside0.mk ((by rw [hg]; exact (below_size (by repeat (first | (with_reducible first | exact HB.out | apply below_alloc | apply pw_below_drewN | apply below_drew1) | exact HB.out))) : w.heap.size ≤ gb318)); have n3_ := Aside0.mk ((by rw [hg]; exact (below_size (by repeat (first | (with_reducible first | exact HB.out | apply below_alloc | apply pw_below_drewN | apply below_drew1) | exact HB.out))) : w.heap.size ≤ gb318)); clear HB; have HB := n0_; have BK318 := n1_; have GW318 := n2_; have GE318 := n3_; clear n0_ n1_ n2_ n3_; clear hb hbox hg; have hczx1b318_0 : wx1i0.cell? ⟨gb318, 0, none⟩ = some (.int .i64 a0_0) := (blk_cell BK318.out 0).trans rfl; have hczx1b318_1 : wx1i0.cell? ⟨gb318, 1, none⟩ = some (.int .i64 a0_1) := (blk_cell BK318.out 1).trans rfl; have hfzx1b318_0 := blk_frozen BK318.out 0; have hfzx1b318_1 := blk_frozen BK318.out 1) | ((with_reducible refine gate_callee (f := 54) rfl ?_); refine goesL_ (some 5) rfl rfl Try.func54 (by kernel_rfl) rfl #[.int .i64 a0_0, .int .i64 0, .int .i64 1000000] rfl (by (try simp only [List.map_toArray, List.map_cons, List.map_nil]); first | done | rfl | (simp only [List.length_drop, List.length_take]; rfl)) ?_; (with_reducible refine (rialtoref07_within.calls a0_0 0 1000000 _ _ A2.out).mono ?_); rintro e w' ⟨rfl, ⟨nd, rfl⟩⟩; refine ⟨_, rfl, ?_⟩) | (go_at_call 54; (with_reducible refine (rialtoref07_within.calls a0_1 0 1000000 _ _ A4.out).mono ?_); rintro e w' ⟨rfl, ⟨nd, rfl⟩⟩))
    go_ret
    exact ⟨by first | rfl | (simp [errW_none, errW_some] <;> rfl) | (simp [*, errW_none, errW_some] <;> rfl), by repeat (first | (with_reducible first | exact HB.out | apply below_alloc | apply pw_below_drewN | apply below_drew1 | refine below_set ?_ GE318.out) | exact HB.out)⟩

end Go.Proofs.Ytiebeiloooblpaa.E
end
section
-- written by myprint.py, a program of this session over the kit's print.py
namespace Go.Proofs.Ytiebeiloooblpaa.E
open Go.RowKit Go.Proofs.YtiebeiloooblpaaW.PrintWords Go.Proofs.YtiebeiloooblpaaW.PrintLast Go.Proofs.YtiebeiloooblpaaW.PrintMore
attribute [local go_sem] max2_int min2_int max_two min_two max_three min_three max_four min_four   -- for this text's walks alone
set_option linter.unusedVariables false
set_option linter.unusedSimpArgs false

/-! ### rialtoref08_Entry: function 52 -/
def rialtoref08_Entry.f (a0_0 : Int) (a0_1 : Int) (a0_2 : ByteArray) : Option (Bool) := (rialtoref08_within.f a0_0 1 1000000).bind fun t322 => (if t322 = true then (if a0_1 = 1 then (if a0_2.toList = ([] : List UInt8) then (some true) else (if a0_1 = 2 then (some (decide ((a0_2.size : Int) ≤ 4000))) else (some false))) else (if a0_1 = 2 then (some (decide ((a0_2.size : Int) ≤ 4000))) else (some false))) else (some false))
set_option maxHeartbeats 8000000 in
set_option maxRecDepth 100000 in
theorem rialtoref08_Entry.calls (a0_0 : Int) (a0_1 : Int) (a0_2 : ByteArray) (r : Bool) (w : World) (h : rialtoref08_Entry.f a0_0 a0_1 a0_2 = some r) :
    Calls Try.prog 52 #[.agg #[.int .i64 a0_0, .int .i64 a0_1, .string a0_2]] w fun e w' => e = .returned (.bool r) ∧ Below w.heap.size w w' := by
  have hu33 := Try.underlying33
  have HB := Aside0.mk (Below.refl w.heap.size w)
  have H : ((rialtoref08_within.f a0_0 1 1000000).bind fun t322 => (if t322 = true then (if a0_1 = 1 then (if a0_2.toList = ([] : List UInt8) then (some true) else (if a0_1 = 2 then (some (decide ((a0_2.size : Int) ≤ 4000))) else (some false))) else (if a0_1 = 2 then (some (decide ((a0_2.size : Int) ≤ 4000))) else (some false))) else (some false))) = some r := h
  clear h
  replace H := Option.bind_eq_some_iff.mp H
  obtain ⟨t322, A20, H⟩ := H
  replace H : (if t322 = true then (if a0_1 = 1 then (if a0_2.toList = ([] : List UInt8) then (some true) else (if a0_1 = 2 then (some (decide ((a0_2.size : Int) ≤ 4000))) else (some false))) else (if a0_1 = 2 then (some (decide ((a0_2.size : Int) ≤ 4000))) else (some false))) else (some false)) = some r := H
  have A2 := Aside0.mk A20
  clear A20
  by_cases c3 : t322 = true
  focus
    subst c3
    have H1 : (if a0_1 = 1 then (if a0_2.toList = ([] : List UInt8) then (some true) else (if a0_1 = 2 then (some (decide ((a0_2.size : Int) ≤ 4000))) else (some false))) else (if a0_1 = 2 then (some (decide ((a0_2.size : Int) ≤ 4000))) else (some false))) = some r := by rw [if_pos rfl] at H; exact H
    clear H
    have H := H1
    clear H1
    by_cases c4 : a0_1 = 1
    focus
      rw [if_pos c4] at H
      have c4b0 : (a0_1 == 1) = true := beq_iff_eq.mpr c4
      have c4b1 : (a0_1 != 1) = false := bne_eq_false_iff_eq.mpr c4
      clear c4
      by_cases c5 : a0_2.toList = ([] : List UInt8)
      focus
        rw [if_pos c5] at H
        have c5b0 : (a0_2.toList == ([] : List UInt8)) = true := beq_iff_eq.mpr c5
        have c5b1 : (a0_2.toList != ([] : List UInt8)) = false := bne_eq_false_iff_eq.mpr c5
        clear c5
        obtain rfl := Option.some.inj H
      rotate_left 1
      focus
        rw [if_neg c5] at H
        have c5b0 : (a0_2.toList == ([] : List UInt8)) = false := beq_eq_false_iff_ne.mpr c5
        have c5b1 : (a0_2.toList != ([] : List UInt8)) = true := bne_iff_ne.mpr c5
        by_cases c8 : a0_1 = 2
        focus
          rw [if_pos c8] at H
          have c8b0 : (a0_1 == 2) = true := beq_iff_eq.mpr c8
          have c8b1 : (a0_1 != 2) = false := bne_eq_false_iff_eq.mpr c8
          clear c8
          obtain rfl := Option.some.inj H
        rotate_left 1
        focus
          rw [if_neg c8] at H
          have c8b0 : (a0_1 == 2) = false := beq_eq_false_iff_ne.mpr c8
          have c8b1 : (a0_1 != 2) = true := bne_iff_ne.mpr c8
          obtain rfl := Option.some.inj H
        rotate_left 1
      rotate_left 2
    rotate_left 3
    focus
      rw [if_neg c4] at H
      have c4b0 : (a0_1 == 1) = false := beq_eq_false_iff_ne.mpr c4
      have c4b1 : (a0_1 != 1) = true := bne_iff_ne.mpr c4
      by_cases c13 : a0_1 = 2
      focus
        rw [if_pos c13] at H
        have c13b0 : (a0_1 == 2) = true := beq_iff_eq.mpr c13
        have c13b1 : (a0_1 != 2) = false := bne_eq_false_iff_eq.mpr c13
        clear c13
        obtain rfl := Option.some.inj H
      rotate_left 1
      focus
        rw [if_neg c13] at H
        have c13b0 : (a0_1 == 2) = false := beq_eq_false_iff_ne.mpr c13
        have c13b1 : (a0_1 != 2) = true := bne_iff_ne.mpr c13
        obtain rfl := Option.some.inj H
      rotate_left 1
    rotate_left 2
  rotate_left 5
  focus
    replace c3 := Bool.eq_false_iff.mpr c3
    subst c3
    have H1 : (some false) = some r := by rw [if_neg (show ¬ (false = true) by decide)] at H; exact H
    clear H
    have H := H1
    clear H1
    obtain rfl := Option.some.inj H
  rotate_left 1
  all_goals
    go_enter Try.func52, Try.ntmps52
    go_wp2_with (first | ((with_reducible refine gate_dst (N := 1) rfl ?_); (try (refine gate_guard (by rfl) ?_; dsimp only)); refine box_event ?hg (N := 1) ?hd (cs := #[.int .i64 a0_0, .int .i64 a0_1, .string a0_2]) (t := 33) ?hr ?_; (case hd => rfl); (case hg => rfl); (case hr => first | (go_simp; done) | (go_simp; rfl)); intro gb321 hg wx1i0 hbox hb; have n0_ := Aside0.mk (below_step (by repeat (first | (with_reducible first | exact HB.out | apply below_alloc | apply pw_below_drewN | apply below_drew1) | exact HB.out)) hb); have n1_ := Aside0.mk (hbox); have n2_ := Aside0.mk ((by rw [hg]; exact (below_size (by repeat (first | (with_reducible first | exact HB.out | apply below_alloc | apply pw_below_drewN | apply below_drew1) | exact HB.out))) : w.heap.size ≤ gb321)); have n3_ := Aside0.mk ((by rw [hg]; exact (below_size (by repeat (first | (with_reducible first | exact HB.out | apply below_alloc | apply pw_below_drewN | apply below_drew1) | exact HB.out))) : w.heap.size ≤ gb321)); clear HB; have HB := n0_; have BK321 := n1_; have GW321 := n2_; have GE321 := n3_; clear n0_ n1_ n2_ n3_; clear hb hbox hg; have hczx1b321_0 : wx1i0.cell? ⟨gb321, 0, none⟩ = some (.int .i64 a0_0) := (blk_cell BK321.out 0).trans rfl; have hczx1b321_1 : wx1i0.cell? ⟨gb321, 1, none⟩ = some (.int .i64 a0_1) := (blk_cell BK321.out 1).trans rfl; have hczx1b321_2 : wx1i0.cell? ⟨gb321, 2, none⟩ = some (.string a0_2) := (blk_cell BK321.out 2).trans rfl; have hfzx1b321_0 := blk_frozen BK321.out 0; have hfzx1b321_1 := blk_frozen BK321.out 1; have hfzx1b321_2 := blk_frozen BK321.out 2) | ((with_reducible refine gate_callee (f := 45) rfl ?_); refine goesL_ (some 5) rfl rfl Try.func45 (by kernel_rfl) rfl #[.int .i64 a0_0, .int .i64 1, .int .i64 1000000] rfl (by (try simp only [List.map_toArray, List.map_cons, List.map_nil]); first | done | rfl | (simp only [List.length_drop, List.length_take]; rfl)) ?_; (with_reducible refine (rialtoref08_within.calls a0_0 1 1000000 _ _ A2.out).mono ?_); rintro e w' ⟨rfl, ⟨nd, rfl⟩⟩; refine ⟨_, rfl, ?_⟩))
    go_ret
    exact ⟨by first | rfl | (simp [errW_none, errW_some] <;> rfl) | (simp [*, errW_none, errW_some] <;> rfl), by repeat (first | (with_reducible first | exact HB.out | apply below_alloc | apply pw_below_drewN | apply below_drew1 | refine below_set ?_ GE321.out) | exact HB.out)⟩

end Go.Proofs.Ytiebeiloooblpaa.E
end
section
-- written by myprint.py, a program of this session over the kit's print.py
namespace Go.Proofs.Ytiebeiloooblpaa.E
open Go.RowKit Go.Proofs.YtiebeiloooblpaaW.PrintWords Go.Proofs.YtiebeiloooblpaaW.PrintLast Go.Proofs.YtiebeiloooblpaaW.PrintMore
attribute [local go_sem] max2_int min2_int max_two min_two max_three min_three max_four min_four   -- for this text's walks alone
set_option linter.unusedVariables false
set_option linter.unusedSimpArgs false

/-! ### rialtoref08_Rows: function 46 -/
def rialtoref08_Rows.l0 : Nat → List (S33) → Int → Int → Option (Bool)
  | 0, _, _, _ => none
  | k + 1, x0, x1, x5 => if x5 < (x0.length : Int) then (if 0 ≤ x5 then ((rialtoref08_Entry.f ((rd_T33 x0 x5).f0) ((rd_T33 x0 x5).f1) ((rd_T33 x0 x5).f2)).bind fun t324 => (if t324 = true then (if ((rd_T33 x0 x5).f0) < x1 then (some false) else (rialtoref08_Rows.l0 k x0 ((rd_T33 x0 x5).f0) (wrap64 (x5 + 1)))) else (some false))) else (none)) else (some true)
def rialtoref08_Rows.f (k : Nat) (l0 : List (S33)) (a1 : Int) : Option (Bool) := rialtoref08_Rows.l0 k l0 a1 0
set_option maxHeartbeats 8000000 in
set_option maxRecDepth 100000 in
theorem rialtoref08_Rows.calls (k : Nat) (A0 : Option Addr) (c0 : Nat) (l0 : List (S33)) (a1 : Int) (r : Bool) (w : World) (hr0 : Kd.C k33 w A0 l0.length l0) (hc0 : l0.length ≤ c0) (h : rialtoref08_Rows.f k l0 a1 = some r) :
    Calls Try.prog 46 #[.slice A0 l0.length c0, .int .i64 a1] w fun e w' => e = .returned (.bool r) ∧ Below w.heap.size w w' := by
  have hu33 := Try.underlying33
  have HR0 := Aside0.mk hr0
  have HC0 := Aside0.mk hc0
  clear hr0 hc0
  have HB := Aside0.mk (Below.refl w.heap.size w)
  have H : (rialtoref08_Rows.l0 k l0 a1 0) = some r := h
  clear h
  have H' := Aside0.mk H
  clear H
  go_enter Try.func46, Try.ntmps46
  go_wp2
  go_loopg [1, 5] k (fun kq v1 v5 w' => ∃ (x1_1 : Int) (x5_1 : Int), v1 = .int .i64 x1_1 ∧ v5 = .int .i64 x5_1 ∧ Aside0 (rialtoref08_Rows.l0 kq l0 x1_1 x5_1 = some r) ∧ Aside0 (kq ≤ k) ∧ Aside0 (Below w.heap.size w w'))
  case atStart => exact ⟨(a1), (0), (by first | rfl | (simp; done) | (simp [*]; done)), (by first | rfl | (simp; done) | (simp [*]; done)), H', ⟨Nat.le_refl _⟩, ⟨by repeat (first | (with_reducible first | exact HB.out | apply below_alloc | apply pw_below_drewN | apply below_drew1) | exact HB.out)⟩⟩
  case round =>
    clear H'
    obtain ⟨x1_1, x5_1, rfl, rfl, HA, HK1, HB⟩ := hrel
    cases gk with
    | zero => exact absurd HA.out (by simp [rialtoref08_Rows.l0])
    | succ k1 =>
      have H := HA.out
      clear HA
      simp only [rialtoref08_Rows.l0] at H
      by_cases c3 : x5_1 < (l0.length : Int)
      focus
        rw [if_pos c3] at H
        have c3b0 : decide (x5_1 < (l0.length : Int)) = true := decide_eq_true c3
        clear c3
        by_cases c4 : 0 ≤ x5_1
        focus
          rw [if_pos c4] at H
          have c4b0 : decide (0 ≤ x5_1) = true := decide_eq_true c4
          clear c4
          replace H := Option.bind_eq_some_iff.mp H
          obtain ⟨t324, A50, H⟩ := H
          replace H : (if t324 = true then (if ((rd_T33 l0 x5_1).f0) < x1_1 then (some false) else (rialtoref08_Rows.l0 k1 l0 ((rd_T33 l0 x5_1).f0) (wrap64 (x5_1 + 1)))) else (some false)) = some r := H
          have A5 := Aside0.mk A50
          clear A50
          by_cases c6 : t324 = true
          focus
            subst c6
            have H1 : (if ((rd_T33 l0 x5_1).f0) < x1_1 then (some false) else (rialtoref08_Rows.l0 k1 l0 ((rd_T33 l0 x5_1).f0) (wrap64 (x5_1 + 1)))) = some r := by rw [if_pos rfl] at H; exact H
            clear H
            have H := H1
            clear H1
            by_cases c7 : ((rd_T33 l0 x5_1).f0) < x1_1
            focus
              rw [if_pos c7] at H
              have c7b0 : decide (((rd_T33 l0 x5_1).f0) < x1_1) = true := decide_eq_true c7
              clear c7
              obtain rfl := Option.some.inj H
            rotate_left 1
            focus
              rw [if_neg c7] at H
              have c7b0 : decide (((rd_T33 l0 x5_1).f0) < x1_1) = false := decide_eq_false c7
              clear c7
              have H' := Aside0.mk H
              clear H
            rotate_left 1
          rotate_left 2
          focus
            replace c6 := Bool.eq_false_iff.mpr c6
            subst c6
            have H1 : (some false) = some r := by rw [if_neg (show ¬ (false = true) by decide)] at H; exact H
            clear H
            have H := H1
            clear H1
            obtain rfl := Option.some.inj H
          rotate_left 1
        rotate_left 3
        focus
          rw [if_neg c4] at H
        rotate_left 1
      rotate_left 4
      focus
        rw [if_neg c3] at H
        have c3b0 : decide (x5_1 < (l0.length : Int)) = false := decide_eq_false c3
        clear c3
        obtain rfl := Option.some.inj H
      rotate_left 1
      iterate 3
        focus
          have p323 : 0 ≤ (x5_1 : Int) := of_decide_eq_true (by first | (with_reducible assumption) | assumption)
          have q323 : x5_1 < (l0.length : Int) := of_decide_eq_true (by first | (with_reducible assumption) | assumption)
          obtain ⟨ad323, e323, hx323_0, hx323_1, hx323_2⟩ := at_T33 HR0.out x5_1 p323 q323
          cases e323
          replace hx323_0 := (HB.out.cell (World.block_lt_of_cell? w _ hx323_0)).trans hx323_0
          replace hx323_1 := (HB.out.cell (World.block_lt_of_cell? w _ hx323_1)).trans hx323_1
          replace hx323_2 := (HB.out.cell (World.block_lt_of_cell? w _ hx323_2)).trans hx323_2
          replace p323 := eq_true p323
          replace q323 := eq_true q323
          go_wp2_with (first | ((with_reducible refine gate_callee (f := 52) rfl ?_); refine goesL_ (some 16) rfl rfl Try.func52 (by kernel_rfl) rfl #[.agg #[.int .i64 ((rd_T33 l0 x5_1).f0), .int .i64 ((rd_T33 l0 x5_1).f1), .string ((rd_T33 l0 x5_1).f2)]] rfl (by (try simp only [List.map_toArray, List.map_cons, List.map_nil]); first | done | rfl | (simp only [List.length_drop, List.length_take]; rfl)) ?_; (with_reducible refine (rialtoref08_Entry.calls ((rd_T33 l0 x5_1).f0) ((rd_T33 l0 x5_1).f1) ((rd_T33 l0 x5_1).f2) true _ A5.out).mono ?_); rintro e wx16i0 ⟨rfl, hb⟩; refine ⟨_, rfl, ?_⟩; have n0_ := Aside0.mk (below_step (by repeat (first | (with_reducible first | exact HB.out | apply below_alloc | apply pw_below_drewN | apply below_drew1) | exact HB.out)) hb); clear HB; have HB := n0_; clear n0_; (try clear hb); (try clear hb2); (try clear hk); (try clear hi); have p325 : 0 ≤ (x5_1 : Int) := of_decide_eq_true (by first | (with_reducible assumption) | assumption); have q325 : x5_1 < (l0.length : Int) := of_decide_eq_true (by first | (with_reducible assumption) | assumption); obtain ⟨ad325, e325, hx325_0, hx325_1, hx325_2⟩ := at_T33 HR0.out x5_1 p325 q325; obtain rfl : ad323 = ad325 := (by injection e325); replace hx325_0 := (HB.out.cell (World.block_lt_of_cell? w _ hx325_0)).trans hx325_0; replace hx325_1 := (HB.out.cell (World.block_lt_of_cell? w _ hx325_1)).trans hx325_1; replace hx325_2 := (HB.out.cell (World.block_lt_of_cell? w _ hx325_2)).trans hx325_2; replace p325 := eq_true p325; replace q325 := eq_true q325) | ((with_reducible refine gate_callee (f := 52) rfl ?_); refine goesL_ (some 16) rfl rfl Try.func52 (by kernel_rfl) rfl #[.agg #[.int .i64 ((rd_T33 l0 x5_1).f0), .int .i64 ((rd_T33 l0 x5_1).f1), .string ((rd_T33 l0 x5_1).f2)]] rfl (by (try simp only [List.map_toArray, List.map_cons, List.map_nil]); first | done | rfl | (simp only [List.length_drop, List.length_take]; rfl)) ?_; (with_reducible refine (rialtoref08_Entry.calls ((rd_T33 l0 x5_1).f0) ((rd_T33 l0 x5_1).f1) ((rd_T33 l0 x5_1).f2) true _ A5.out).mono ?_); rintro e wx16i0 ⟨rfl, hb⟩; refine ⟨_, rfl, ?_⟩; have n0_ := Aside0.mk (below_step (by repeat (first | (with_reducible first | exact HB.out | apply below_alloc | apply pw_below_drewN | apply below_drew1) | exact HB.out)) hb); clear HB; have HB := n0_; clear n0_; (try clear hb); (try clear hb2); (try clear hk); (try clear hi); have p325 : 0 ≤ (x5_1 : Int) := of_decide_eq_true (by first | (with_reducible assumption) | assumption); have q325 : x5_1 < (l0.length : Int) := of_decide_eq_true (by first | (with_reducible assumption) | assumption); obtain ⟨ad325, e325, hx325_0, hx325_1, hx325_2⟩ := at_T33 HR0.out x5_1 p325 q325; obtain rfl : ad323 = ad325 := (by injection e325); replace hx325_0 := (HB.out.cell (World.block_lt_of_cell? w _ hx325_0)).trans hx325_0; replace hx325_1 := (HB.out.cell (World.block_lt_of_cell? w _ hx325_1)).trans hx325_1; replace hx325_2 := (HB.out.cell (World.block_lt_of_cell? w _ hx325_2)).trans hx325_2; replace p325 := eq_true p325; replace q325 := eq_true q325; have p326 : 0 ≤ (x5_1 : Int) := of_decide_eq_true (by first | (with_reducible assumption) | assumption); have q326 : x5_1 < (l0.length : Int) := of_decide_eq_true (by first | (with_reducible assumption) | assumption); obtain ⟨ad326, e326, hx326_0, hx326_1, hx326_2⟩ := at_T33 HR0.out x5_1 p326 q326; obtain rfl : ad323 = ad326 := (by injection e326); replace hx326_0 := (HB.out.cell (World.block_lt_of_cell? w _ hx326_0)).trans hx326_0; replace hx326_1 := (HB.out.cell (World.block_lt_of_cell? w _ hx326_1)).trans hx326_1; replace hx326_2 := (HB.out.cell (World.block_lt_of_cell? w _ hx326_2)).trans hx326_2; replace p326 := eq_true p326; replace q326 := eq_true q326) | ((with_reducible refine gate_callee (f := 52) rfl ?_); refine goesL_ (some 16) rfl rfl Try.func52 (by kernel_rfl) rfl #[.agg #[.int .i64 ((rd_T33 l0 x5_1).f0), .int .i64 ((rd_T33 l0 x5_1).f1), .string ((rd_T33 l0 x5_1).f2)]] rfl (by (try simp only [List.map_toArray, List.map_cons, List.map_nil]); first | done | rfl | (simp only [List.length_drop, List.length_take]; rfl)) ?_; (with_reducible refine (rialtoref08_Entry.calls ((rd_T33 l0 x5_1).f0) ((rd_T33 l0 x5_1).f1) ((rd_T33 l0 x5_1).f2) false _ A5.out).mono ?_); rintro e wx16i0 ⟨rfl, hb⟩; refine ⟨_, rfl, ?_⟩; have n0_ := Aside0.mk (below_step (by repeat (first | (with_reducible first | exact HB.out | apply below_alloc | apply pw_below_drewN | apply below_drew1) | exact HB.out)) hb); clear HB; have HB := n0_; clear n0_; (try clear hb); (try clear hb2); (try clear hk); (try clear hi)))
        rotate_left
      focus
        exact absurd H (by simp)
      focus
        go_wp2
        go_ret
        exact ⟨by first | rfl | (simp [errW_none, errW_some] <;> rfl) | (simp [*, errW_none, errW_some] <;> rfl), by repeat (first | (with_reducible first | exact HB.out | apply below_alloc | apply pw_below_drewN | apply below_drew1) | exact HB.out)⟩
      focus
        go_ret
        exact ⟨by first | rfl | (simp [errW_none, errW_some] <;> rfl) | (simp [*, errW_none, errW_some] <;> rfl), by repeat (first | (with_reducible first | exact HB.out | apply below_alloc | apply pw_below_drewN | apply below_drew1) | exact HB.out)⟩
      focus
        go_roundg k1
        case measure => have := HK1.out; omega
        case rel => exact ⟨((rd_T33 l0 x5_1).f0), (wrap64 (x5_1 + 1)), (by first | rfl | (simp; done) | (simp [*]; done)), (by first | rfl | (simp; done) | (simp [*]; done)), H', ⟨by have := HK1.out; omega⟩, ⟨by repeat (first | (with_reducible first | exact HB.out | apply below_alloc | apply pw_below_drewN | apply below_drew1) | exact HB.out)⟩⟩
      focus
        go_ret
        exact ⟨by first | rfl | (simp [errW_none, errW_some] <;> rfl) | (simp [*, errW_none, errW_some] <;> rfl), by repeat (first | (with_reducible first | exact HB.out | apply below_alloc | apply pw_below_drewN | apply below_drew1) | exact HB.out)⟩

end Go.Proofs.Ytiebeiloooblpaa.E
end
section
-- written by myprint.py, a program of this session over the kit's print.py
namespace Go.Proofs.Ytiebeiloooblpaa.E
open Go.RowKit Go.Proofs.YtiebeiloooblpaaW.PrintWords Go.Proofs.YtiebeiloooblpaaW.PrintLast Go.Proofs.YtiebeiloooblpaaW.PrintMore
attribute [local go_sem] max2_int min2_int max_two min_two max_three min_three max_four min_four   -- for this text's walks alone
set_option linter.unusedVariables false
set_option linter.unusedSimpArgs false

/-! ### rialtoref08_end: function 47 -/
def rialtoref08_end.f (a0_0 : Int) (a0_1 : Int) (l0_2 : List (S33)) (a0_3 : Int) : Option (Int) := some (wrap64 (a0_0 + (l0_2.length : Int)))
set_option maxHeartbeats 8000000 in
set_option maxRecDepth 100000 in
theorem rialtoref08_end.calls (a0_0 : Int) (a0_1 : Int) (A0_2 : Option Addr) (c0_2 : Nat) (l0_2 : List (S33)) (a0_3 : Int) (r : Int) (w : World) (hr0_2 : Kd.C k33 w A0_2 l0_2.length l0_2) (hc0_2 : l0_2.length ≤ c0_2) (h : rialtoref08_end.f a0_0 a0_1 l0_2 a0_3 = some r) :
    Calls Try.prog 47 #[.agg #[.int .i64 a0_0, .int .i64 a0_1, .slice A0_2 l0_2.length c0_2, .int .i64 a0_3]] w fun e w' => e = .returned (.int .i64 r) ∧ Below w.heap.size w w' := by
  have hu26 := Try.underlying26
  have HR0_2 := Aside0.mk hr0_2
  have HC0_2 := Aside0.mk hc0_2
  clear hr0_2 hc0_2
  have HB := Aside0.mk (Below.refl w.heap.size w)
  have H : (some (wrap64 (a0_0 + (l0_2.length : Int)))) = some r := h
  clear h
  obtain rfl := Option.some.inj H
  go_enter Try.func47, Try.ntmps47
  go_wp2_with (first | ((with_reducible refine gate_dst (N := 1) rfl ?_); refine box_event ?hg (N := 1) ?hd (cs := #[.int .i64 a0_0, .int .i64 a0_1, .slice A0_2 l0_2.length c0_2, .int .i64 a0_3]) (t := 26) ?hr ?_; (case hd => rfl); (case hg => rfl); (case hr => first | (go_simp; done) | (go_simp; rfl)); intro gb327 hg w2 hbox hb; have n0_ := Aside0.mk (below_step (by repeat (first | (with_reducible first | exact HB.out | apply below_alloc | apply pw_below_drewN | apply below_drew1) | exact HB.out)) hb); have n1_ := Aside0.mk (hbox); have n2_ := Aside0.mk ((by rw [hg]; exact (below_size (by repeat (first | (with_reducible first | exact HB.out | apply below_alloc | apply pw_below_drewN | apply below_drew1) | exact HB.out))) : w.heap.size ≤ gb327)); have n3_ := Aside0.mk ((by rw [hg]; exact (below_size (by repeat (first | (with_reducible first | exact HB.out | apply below_alloc | apply pw_below_drewN | apply below_drew1) | exact HB.out))) : w.heap.size ≤ gb327)); clear HB; have HB := n0_; have BK327 := n1_; have GW327 := n2_; have GE327 := n3_; clear n0_ n1_ n2_ n3_; clear hb hbox hg; have hcz3_0 : w2.cell? ⟨gb327, 0, none⟩ = some (.int .i64 a0_0) := (blk_cell BK327.out 0).trans rfl; have hcz3_1 : w2.cell? ⟨gb327, 1, none⟩ = some (.int .i64 a0_1) := (blk_cell BK327.out 1).trans rfl; have hcz3_2 : w2.cell? ⟨gb327, 2, none⟩ = some (.slice A0_2 l0_2.length c0_2) := (blk_cell BK327.out 2).trans rfl; have hcz3_3 : w2.cell? ⟨gb327, 3, none⟩ = some (.int .i64 a0_3) := (blk_cell BK327.out 3).trans rfl; have hfz3_0 := blk_frozen BK327.out 0; have hfz3_1 := blk_frozen BK327.out 1; have hfz3_2 := blk_frozen BK327.out 2; have hfz3_3 := blk_frozen BK327.out 3))
  go_ret
  exact ⟨by first | rfl | (simp [errW_none, errW_some] <;> rfl) | (simp [*, errW_none, errW_some] <;> rfl), by repeat (first | (with_reducible first | exact HB.out | apply below_alloc | apply pw_below_drewN | apply below_drew1 | refine below_set ?_ GE327.out) | exact HB.out)⟩

end Go.Proofs.Ytiebeiloooblpaa.E
end
section
-- written by myprint.py, a program of this session over the kit's print.py
namespace Go.Proofs.Ytiebeiloooblpaa.E
open Go.Proofs.YtiebeiloooblpaaST
open Go.RowKit Go.Proofs.YtiebeiloooblpaaW.PrintWords Go.Proofs.YtiebeiloooblpaaW.PrintLast Go.Proofs.YtiebeiloooblpaaW.PrintMore
attribute [local go_sem] max2_int min2_int max_two min_two max_three min_three max_four min_four   -- for this text's walks alone
set_option linter.unusedVariables false
set_option linter.unusedSimpArgs false

/-! ### rialtoref08_Check: function 31 -/
def rialtoref08_Check.f (k : Nat) (a0_0 : Int) (a0_1 : Int) (l0_2 : List (S33)) (a0_3 : Int) : Option (Int) := (rialtoref07_Mark.f a0_0 a0_1).bind fun t329 => (if t329 = true then (if (l0_2.length : Int) > 400 then (some 80) else ((rialtoref08_Rows.f k l0_2 a0_1).bind fun t330 => (if t330 = true then ((rialtoref08_end.f a0_0 a0_1 l0_2 a0_3).bind fun t331 => (if t331 > 1000000 then (some 80) else ((rialtoref08_end.f a0_0 a0_1 l0_2 a0_3).bind fun t332 => ((rialtoref08_within.f a0_3 a0_0 t332).bind fun t333 => (if t333 = true then (some 0) else (some 80)))))) else (some 80)))) else (some 80))
def rialtoref08_Check.T1 : Bool × List (List Nat × List Nat) := (true, [([], []), ([0], [0]), ([1], [1]), ([2], [2]), ([3, 2], [3]), ([4], [4]), ([5, 4], [4, 5]), ([6, 4], [4, 6]), ([7, 4], [4, 7]), ([4, 8], [4, 8]), ([9, 4], [9]), ([10], [10]), ([11, 10], [10, 11]), ([10], [10]), ([13, 10], [10, 13]), ([14, 10], [10, 14]), ([12, 15, 10, 10], [10, 12, 15]), ([16, 10], [10, 16]), ([10, 17], [10, 17]), ([18, 16], [18]), ([19], [19]), ([20, 19, 19], [19, 20]), ([21, 19], [19, 21]), ([19, 22], [19, 22]), ([23, 21], [23]), ([24], [24]), ([25, 24], [24, 25]), ([24], [24]), ([27, 24], [24, 27]), ([28, 24], [24, 28]), ([24], [24]), ([30, 24, 24], [24, 30]), ([26, 29, 31, 31, 24], [24, 26, 29, 31]), ([32, 24], [24, 32]), ([24, 33], [24, 33])])
def rialtoref08_Check.B1 : List Nat := [0, 1, 3, 7, 15, 31, 63, 127, 255, 511, 1023, 2047, 4095, 2047, 10239, 26623, 65535, 131071, 262143, 524287, 1048575, 2097151, 4194303, 8388607, 16777215, 33554431, 67108863, 33554431, 167772159, 436207615, 33554431, 1107296255, 4294967295, 8589934591, 17179869183]
theorem rialtoref08_Check.tab1 : rtab .any (opsOf Try.f31 1) = rialtoref08_Check.T1 := by kernel_rfl
theorem rialtoref08_Check.bits1 : waitsOk rialtoref08_Check.T1.2 rialtoref08_Check.B1 = true := by kernel_rfl
set_option maxHeartbeats 8000000 in
set_option maxRecDepth 100000 in
theorem rialtoref08_Check.calls (k : Nat) (a0_0 : Int) (a0_1 : Int) (A0_2 : Option Addr) (c0_2 : Nat) (l0_2 : List (S33)) (a0_3 : Int) (r : Int) (w : World) (hr0_2 : Kd.C k33 w A0_2 l0_2.length l0_2) (hc0_2 : l0_2.length ≤ c0_2) (h : rialtoref08_Check.f k a0_0 a0_1 l0_2 a0_3 = some r) :
    Calls Try.prog 31 #[.agg #[.int .i64 a0_0, .int .i64 a0_1, .slice A0_2 l0_2.length c0_2, .int .i64 a0_3]] w fun e w' => e = .returned (.int .i64 r) ∧ Below w.heap.size w w' := by
  have hu26 := Try.underlying26
  have hu23 := Try.underlying23
  have HR0_2 := Aside0.mk hr0_2
  have HC0_2 := Aside0.mk hc0_2
  clear hr0_2 hc0_2
  have HB := Aside0.mk (Below.refl w.heap.size w)
  have H : ((rialtoref07_Mark.f a0_0 a0_1).bind fun t329 => (if t329 = true then (if (l0_2.length : Int) > 400 then (some 80) else ((rialtoref08_Rows.f k l0_2 a0_1).bind fun t330 => (if t330 = true then ((rialtoref08_end.f a0_0 a0_1 l0_2 a0_3).bind fun t331 => (if t331 > 1000000 then (some 80) else ((rialtoref08_end.f a0_0 a0_1 l0_2 a0_3).bind fun t332 => ((rialtoref08_within.f a0_3 a0_0 t332).bind fun t333 => (if t333 = true then (some 0) else (some 80)))))) else (some 80)))) else (some 80))) = some r := h
  clear h
  replace H := Option.bind_eq_some_iff.mp H
  obtain ⟨t329, A20, H⟩ := H
  replace H : (if t329 = true then (if (l0_2.length : Int) > 400 then (some 80) else ((rialtoref08_Rows.f k l0_2 a0_1).bind fun t330 => (if t330 = true then ((rialtoref08_end.f a0_0 a0_1 l0_2 a0_3).bind fun t331 => (if t331 > 1000000 then (some 80) else ((rialtoref08_end.f a0_0 a0_1 l0_2 a0_3).bind fun t332 => ((rialtoref08_within.f a0_3 a0_0 t332).bind fun t333 => (if t333 = true then (some 0) else (some 80)))))) else (some 80)))) else (some 80)) = some r := H
  have A2 := Aside0.mk A20
  clear A20
  by_cases c3 : t329 = true
  focus
    subst c3
    have H1 : (if (l0_2.length : Int) > 400 then (some 80) else ((rialtoref08_Rows.f k l0_2 a0_1).bind fun t330 => (if t330 = true then ((rialtoref08_end.f a0_0 a0_1 l0_2 a0_3).bind fun t331 => (if t331 > 1000000 then (some 80) else ((rialtoref08_end.f a0_0 a0_1 l0_2 a0_3).bind fun t332 => ((rialtoref08_within.f a0_3 a0_0 t332).bind fun t333 => (if t333 = true then (some 0) else (some 80)))))) else (some 80)))) = some r := by rw [if_pos rfl] at H; exact H
    clear H
    have H := H1
    clear H1
    by_cases c4 : (l0_2.length : Int) > 400
    focus
      rw [if_pos c4] at H
      have c4b0 : decide (400 < (l0_2.length : Int)) = true := decide_eq_true c4
      have c4b1 : decide (400 < l0_2.length) = true := decide_eq_true (by omega)
      clear c4
      obtain rfl := Option.some.inj H
    rotate_left 1
    focus
      rw [if_neg c4] at H
      have c4b0 : decide (400 < (l0_2.length : Int)) = false := decide_eq_false c4
      have c4b1 : decide (400 < l0_2.length) = false := decide_eq_false (by omega)
      clear c4
      replace H := Option.bind_eq_some_iff.mp H
      obtain ⟨t330, A80, H⟩ := H
      replace H : (if t330 = true then ((rialtoref08_end.f a0_0 a0_1 l0_2 a0_3).bind fun t331 => (if t331 > 1000000 then (some 80) else ((rialtoref08_end.f a0_0 a0_1 l0_2 a0_3).bind fun t332 => ((rialtoref08_within.f a0_3 a0_0 t332).bind fun t333 => (if t333 = true then (some 0) else (some 80)))))) else (some 80)) = some r := H
      have A8 := Aside0.mk A80
      clear A80
      by_cases c9 : t330 = true
      focus
        subst c9
        have H1 : ((rialtoref08_end.f a0_0 a0_1 l0_2 a0_3).bind fun t331 => (if t331 > 1000000 then (some 80) else ((rialtoref08_end.f a0_0 a0_1 l0_2 a0_3).bind fun t332 => ((rialtoref08_within.f a0_3 a0_0 t332).bind fun t333 => (if t333 = true then (some 0) else (some 80)))))) = some r := by rw [if_pos rfl] at H; exact H
        clear H
        have H := H1
        clear H1
        replace H := Option.bind_eq_some_iff.mp H
        obtain ⟨t331, A100, H⟩ := H
        replace H : (if t331 > 1000000 then (some 80) else ((rialtoref08_end.f a0_0 a0_1 l0_2 a0_3).bind fun t332 => ((rialtoref08_within.f a0_3 a0_0 t332).bind fun t333 => (if t333 = true then (some 0) else (some 80))))) = some r := H
        have A10 := Aside0.mk A100
        clear A100
        by_cases c11 : t331 > 1000000
        focus
          rw [if_pos c11] at H
          have c11b0 : decide (1000000 < t331) = true := decide_eq_true c11
          clear c11
          obtain rfl := Option.some.inj H
        rotate_left 1
        focus
          rw [if_neg c11] at H
          have c11b0 : decide (1000000 < t331) = false := decide_eq_false c11
          clear c11
          replace H := Option.bind_eq_some_iff.mp H
          obtain ⟨t332, A170, H⟩ := H
          replace H : ((rialtoref08_within.f a0_3 a0_0 t332).bind fun t333 => (if t333 = true then (some 0) else (some 80))) = some r := H
          have A17 := Aside0.mk A170
          clear A170
          replace H := Option.bind_eq_some_iff.mp H
          obtain ⟨t333, A180, H⟩ := H
          replace H : (if t333 = true then (some 0) else (some 80)) = some r := H
          have A18 := Aside0.mk A180
          clear A180
          by_cases c19 : t333 = true
          focus
            subst c19
            have H1 : (some 0) = some r := by rw [if_pos rfl] at H; exact H
            clear H
            have H := H1
            clear H1
            obtain rfl := Option.some.inj H
          rotate_left 1
          focus
            replace c19 := Bool.eq_false_iff.mpr c19
            subst c19
            have H1 : (some 80) = some r := by rw [if_neg (show ¬ (false = true) by decide)] at H; exact H
            clear H
            have H := H1
            clear H1
            obtain rfl := Option.some.inj H
          rotate_left 1
        rotate_left 2
      rotate_left 3
      focus
        replace c9 := Bool.eq_false_iff.mpr c9
        subst c9
        have H1 : (some 80) = some r := by rw [if_neg (show ¬ (false = true) by decide)] at H; exact H
        clear H
        have H := H1
        clear H1
        obtain rfl := Option.some.inj H
      rotate_left 1
    rotate_left 4
  rotate_left 5
  focus
    replace c3 := Bool.eq_false_iff.mpr c3
    subst c3
    have H1 : (some 80) = some r := by rw [if_neg (show ¬ (false = true) by decide)] at H; exact H
    clear H
    have H := H1
    clear H1
    obtain rfl := Option.some.inj H
  rotate_left 1
  all_goals
    go_enter Try.func31, Try.ntmps31
    try go_wp2_with (first | ((with_reducible refine gate_dst (N := 1) rfl ?_); (try (refine gate_guard (by rfl) ?_; dsimp only)); refine box_event ?hg (N := 1) ?hd (cs := #[.int .i64 a0_0, .int .i64 a0_1, .slice A0_2 l0_2.length c0_2, .int .i64 a0_3]) (t := 26) ?hr ?_; (case hd => rfl); (case hg => rfl); (case hr => first | (go_simp; done) | (go_simp; rfl)); intro gb328 hg wx1i0 hbox hb; have n0_ := Aside0.mk (below_step (by repeat (first | (with_reducible first | exact HB.out | apply below_alloc | apply pw_below_drewN | apply below_drew1) | exact HB.out)) hb); have n1_ := Aside0.mk (hbox); have n2_ := Aside0.mk ((by rw [hg]; exact (below_size (by repeat (first | (with_reducible first | exact HB.out | apply below_alloc | apply pw_below_drewN | apply below_drew1) | exact HB.out))) : w.heap.size ≤ gb328)); have n3_ := Aside0.mk ((by rw [hg]; exact (below_size (by repeat (first | (with_reducible first | exact HB.out | apply below_alloc | apply pw_below_drewN | apply below_drew1) | exact HB.out))) : w.heap.size ≤ gb328)); clear HB; have HB := n0_; have BK328 := n1_; have GW328 := n2_; have GE328 := n3_; clear n0_ n1_ n2_ n3_; clear hb hbox hg))
    have n0_ := Aside0.mk (blk_drew BK328.out)
    have n1_ := Aside0.mk (below_drew1 HB.out)
    clear BK328
    clear HB
    have BK328 := n0_
    have HB := n1_
    clear n0_ n1_
    refine start_ (n := 35) (S := fun w' => w'.cell? ⟨gb328, 0, none⟩ = some (.int .i64 a0_0) ∧ w'.cell? ⟨gb328, 1, none⟩ = some (.int .i64 a0_1) ∧ w'.cell? ⟨gb328, 2, none⟩ = some (.slice A0_2 l0_2.length c0_2) ∧ w'.cell? ⟨gb328, 3, none⟩ = some (.int .i64 a0_3)) (ds := []) #[false, false, false, false, false, false, false, false, false, false, false, false, false, false, false, false, false, false, false, false, false, false, false, false, false, false, false, false, false, false, false, false, false, false, false] (by kernel_rfl) rfl rfl ⟨(blk_cell BK328.out 0).trans rfl, (blk_cell BK328.out 1).trans rfl, (blk_cell BK328.out 2).trans rfl, (blk_cell BK328.out 3).trans rfl⟩ (fun hHeld => ?_); refine with_tabW rialtoref08_Check.tab1 rialtoref08_Check.bits1 (fun HT_ HW_ => ?_)
    generalize wx1i0.drew = wyi0 at BK328 HB hHeld ⊢
    refine stepP HT_ 0 (some 3) ?_
    refine stepT4 HT_ HW_ 1 (some 4) hHeld ?_
    refine one_ (i := 2) (N := some 5) #[true, true, true, false, false, false, false, false, false, false, false, false, false, false, false, false, false, false, false, false, false, false, false, false, false, false, false, false, false, false, false, false, false, false, false] rfl rfl (one_of HT_.out (by kernel_rfl)) (by decide) (fun K hK => ?_)
    refine goes_ Try.func40 (by kernel_rfl) rfl #[.agg #[.int .i64 a0_0, .int .i64 a0_1]] (by rfl) rfl rfl (by (try simp only [List.map_toArray, List.map_cons, List.map_nil]); first | done | rfl | (simp only [List.length_drop, List.length_take]; rfl)) ?_
    with_reducible refine (rialtoref07_Mark.calls a0_0 a0_1 _ _ A2.out).mono ?_
    rintro e wyi1 ⟨rfl, hb⟩
    refine ⟨_, rfl, ?_⟩
    have n0_ := Aside0.mk (blk_below (g := gb328) (o := .cells #[.int .i64 a0_0, .int .i64 a0_1, .slice A0_2 l0_2.length c0_2, .int .i64 a0_3] 26 (0, 0)) (by (with_reducible repeat (first | refine blk_drewN ?_ _ | refine blk_drew ?_ | refine blk_alloc ?_ _)); exact BK328.out) hb)
    have n1_ := Aside0.mk (below_step (by repeat (first | (with_reducible first | exact HB.out | apply below_alloc | apply pw_below_drewN | apply below_drew1 | refine below_set ?_ GE328.out) | exact HB.out)) hb)
    clear BK328
    clear HB
    have BK328 := n0_
    have HB := n1_
    clear n0_ n1_
    (try clear hb)
    (try clear hb2)
    (try clear hk)
    (try clear hi)
    refine hK.out _ _ ⟨(blk_cell BK328.out 0).trans rfl, (blk_cell BK328.out 1).trans rfl, (blk_cell BK328.out 2).trans rfl, (blk_cell BK328.out 3).trans rfl⟩ (fun hHeld => ?_)
    clear hK K
    refine norm_ (a' := ?_) ?_ ?_
    rotate_left
    · show Act.put _ (some 5) _ = _
      simp only [Act.put, List.setIfInBounds_toArray, List.set_cons_zero, List.set_cons_succ, i64_w, i32_w]
      rfl
    refine stepP HT_ 3 (some 6) ?_
    refine stepP HT_ 4 (some 7) ?_
  iterate 5
    focus
      refine stepP HT_ 5 (some 8) ?_
      refine stepT4 HT_ HW_ 6 (some 9) hHeld ?_
      refine stepP HT_ 7 (some 10) ?_
      refine stepP HT_ 8 (some 11) ?_
      refine stepP HT_ 9 (some 12) ?_
      refine stepP HT_ 10 (some 13) ?_
    rotate_left
  focus
    refine stepU HT_ 5 (some 8) ?_
    refine stepU HT_ 6 (some 9) ?_
    refine stepU HT_ 7 (some 10) ?_
    refine stepU HT_ 8 (some 11) ?_
    refine stepP HT_ 9 (some 12) ?_
    refine stepP HT_ 10 (some 13) ?_
    refine stepU HT_ 11 (some 14) ?_
    refine stepU HT_ 12 (some 15) ?_
    refine stepU HT_ 13 (some 16) ?_
    refine stepU HT_ 14 (some 17) ?_
    refine stepU HT_ 15 (some 18) ?_
    refine stepU HT_ 16 (some 19) ?_
    refine stepU HT_ 17 (some 20) ?_
    refine stepP HT_ 18 (some 21) ?_
    refine stepP HT_ 19 (some 22) ?_
    refine stepU HT_ 20 (some 23) ?_
    refine stepU HT_ 21 (some 24) ?_
    refine stepU HT_ 22 (some 25) ?_
    refine stepP HT_ 23 (some 26) ?_
    refine stepP HT_ 24 (some 27) ?_
    refine stepU HT_ 25 (some 28) ?_
    refine stepU HT_ 26 (some 29) ?_
    refine stepU HT_ 27 (some 30) ?_
    refine stepU HT_ 28 (some 31) ?_
    refine stepU HT_ 29 (some 32) ?_
    refine stepU HT_ 30 (some 33) ?_
    refine stepU HT_ 31 (some 34) ?_
    refine stepU HT_ 32 (some 35) ?_
    refine stepU HT_ 33 (some 36) ?_
    refine stepP HT_ 34 (some 37) ?_
    refine done_ (done_of HT_.out (by kernel_rfl)) ?_
    try go_wp2
    go_ret
    exact ⟨by first | rfl | (simp [errW_none, errW_some] <;> rfl) | (simp [*, errW_none, errW_some] <;> rfl), by repeat (first | (with_reducible first | exact HB.out | apply below_alloc | apply pw_below_drewN | apply below_drew1 | refine below_set ?_ GE328.out) | exact HB.out)⟩
  focus
    refine stepU HT_ 11 (some 14) ?_
    refine stepU HT_ 12 (some 15) ?_
    refine stepU HT_ 13 (some 16) ?_
    refine stepU HT_ 14 (some 17) ?_
    refine stepU HT_ 15 (some 18) ?_
    refine stepU HT_ 16 (some 19) ?_
    refine stepU HT_ 17 (some 20) ?_
    refine stepP HT_ 18 (some 21) ?_
    refine stepP HT_ 19 (some 22) ?_
    refine stepU HT_ 20 (some 23) ?_
    refine stepU HT_ 21 (some 24) ?_
    refine stepU HT_ 22 (some 25) ?_
    refine stepP HT_ 23 (some 26) ?_
    refine stepP HT_ 24 (some 27) ?_
    refine stepU HT_ 25 (some 28) ?_
    refine stepU HT_ 26 (some 29) ?_
    refine stepU HT_ 27 (some 30) ?_
    refine stepU HT_ 28 (some 31) ?_
    refine stepU HT_ 29 (some 32) ?_
    refine stepU HT_ 30 (some 33) ?_
    refine stepU HT_ 31 (some 34) ?_
    refine stepU HT_ 32 (some 35) ?_
    refine stepU HT_ 33 (some 36) ?_
    refine stepP HT_ 34 (some 37) ?_
    refine done_ (done_of HT_.out (by kernel_rfl)) ?_
    try go_wp2
    go_ret
    exact ⟨by first | rfl | (simp [errW_none, errW_some] <;> rfl) | (simp [*, errW_none, errW_some] <;> rfl), by repeat (first | (with_reducible first | exact HB.out | apply below_alloc | apply pw_below_drewN | apply below_drew1 | refine below_set ?_ GE328.out) | exact HB.out)⟩
  iterate 4
    focus
      refine stepP HT_ 11 (some 14) ?_
      refine stepP HT_ 13 (some 16) ?_
      refine stepP HT_ 14 (some 17) ?_
      refine stepT4 HT_ HW_ 12 (some 15) hHeld ?_
      refine stepT4 HT_ HW_ 15 (some 18) hHeld ?_
      refine one_ (i := 16) (N := some 19) #[true, true, true, true, true, true, true, true, true, true, true, true, true, true, true, true, true, false, false, false, false, false, false, false, false, false, false, false, false, false, false, false, false, false, false] rfl rfl (one_of HT_.out (by kernel_rfl)) (by decide) (fun K hK => ?_)
      refine goes_ Try.func46 (by kernel_rfl) rfl #[.slice A0_2 l0_2.length c0_2, .int .i64 a0_1] (by rfl) rfl rfl (by (try simp only [List.map_toArray, List.map_cons, List.map_nil]); first | done | rfl | (simp only [List.length_drop, List.length_take]; rfl)) ?_
      with_reducible refine (rialtoref08_Rows.calls k _ _ l0_2 a0_1 _ _ ?side1 ?side2 A8.out).mono ?_
      (case side1 => repeat (first | exact (Kd.C_below HR0_2.out HB.out) | (with_reducible refine Kd.C_alloc ?_ _) | (with_reducible refine Kd.C_drewN ?_ _) | (with_reducible refine Kd.C_drew ?_)))
      (case side2 => exact HC0_2.out)
      rintro e wyi2 ⟨rfl, hb⟩
      refine ⟨_, rfl, ?_⟩
      have n0_ := Aside0.mk (blk_below (g := gb328) (o := .cells #[.int .i64 a0_0, .int .i64 a0_1, .slice A0_2 l0_2.length c0_2, .int .i64 a0_3] 26 (0, 0)) (by (with_reducible repeat (first | refine blk_drewN ?_ _ | refine blk_drew ?_ | refine blk_alloc ?_ _)); exact BK328.out) hb)
      have n1_ := Aside0.mk (below_step (by repeat (first | (with_reducible first | exact HB.out | apply below_alloc | apply pw_below_drewN | apply below_drew1 | refine below_set ?_ GE328.out) | exact HB.out)) hb)
      clear BK328
      clear HB
      have BK328 := n0_
      have HB := n1_
      clear n0_ n1_
      (try clear hb)
      (try clear hb2)
      (try clear hk)
      (try clear hi)
      refine hK.out _ _ ⟨(blk_cell BK328.out 0).trans rfl, (blk_cell BK328.out 1).trans rfl, (blk_cell BK328.out 2).trans rfl, (blk_cell BK328.out 3).trans rfl⟩ (fun hHeld => ?_)
      clear hK K
      refine norm_ (a' := ?_) ?_ ?_
      rotate_left
      · show Act.put _ (some 19) _ = _
        simp only [Act.put, List.setIfInBounds_toArray, List.set_cons_zero, List.set_cons_succ, i64_w, i32_w]
        rfl
      refine stepP HT_ 17 (some 20) ?_
      refine stepP HT_ 18 (some 21) ?_
      refine stepP HT_ 19 (some 22) ?_
    rotate_left
  iterate 3
    focus
      refine stepT4 HT_ HW_ 20 (some 23) hHeld ?_
      refine one_ (i := 21) (N := some 24) #[true, true, true, true, true, true, true, true, true, true, true, true, true, true, true, true, true, true, true, true, true, true, false, false, false, false, false, false, false, false, false, false, false, false, false] rfl rfl (one_of HT_.out (by kernel_rfl)) (by decide) (fun K hK => ?_)
      refine goes_ Try.func47 (by kernel_rfl) rfl #[.agg #[.int .i64 a0_0, .int .i64 a0_1, .slice A0_2 l0_2.length c0_2, .int .i64 a0_3]] (by rfl) rfl rfl (by (try simp only [List.map_toArray, List.map_cons, List.map_nil]); first | done | rfl | (simp only [List.length_drop, List.length_take]; rfl)) ?_
      with_reducible refine (rialtoref08_end.calls a0_0 a0_1 _ _ l0_2 a0_3 t331 _ ?side1 ?side2 A10.out).mono ?_
      (case side1 => repeat (first | exact (Kd.C_below HR0_2.out HB.out) | (with_reducible refine Kd.C_alloc ?_ _) | (with_reducible refine Kd.C_drewN ?_ _) | (with_reducible refine Kd.C_drew ?_)))
      (case side2 => exact HC0_2.out)
      rintro e wyi3 ⟨rfl, hb⟩
      refine ⟨_, rfl, ?_⟩
      have n0_ := Aside0.mk (blk_below (g := gb328) (o := .cells #[.int .i64 a0_0, .int .i64 a0_1, .slice A0_2 l0_2.length c0_2, .int .i64 a0_3] 26 (0, 0)) (by (with_reducible repeat (first | refine blk_drewN ?_ _ | refine blk_drew ?_ | refine blk_alloc ?_ _)); exact BK328.out) hb)
      have n1_ := Aside0.mk (below_step (by repeat (first | (with_reducible first | exact HB.out | apply below_alloc | apply pw_below_drewN | apply below_drew1 | refine below_set ?_ GE328.out) | exact HB.out)) hb)
      clear BK328
      clear HB
      have BK328 := n0_
      have HB := n1_
      clear n0_ n1_
      (try clear hb)
      (try clear hb2)
      (try clear hk)
      (try clear hi)
      refine hK.out _ _ ⟨(blk_cell BK328.out 0).trans rfl, (blk_cell BK328.out 1).trans rfl, (blk_cell BK328.out 2).trans rfl, (blk_cell BK328.out 3).trans rfl⟩ (fun hHeld => ?_)
      clear hK K
      refine norm_ (a' := ?_) ?_ ?_
      rotate_left
      · show Act.put _ (some 24) _ = _
        simp only [Act.put, List.setIfInBounds_toArray, List.set_cons_zero, List.set_cons_succ, i64_w, i32_w]
        rfl
      refine stepP HT_ 22 (some 25) ?_
      refine stepP HT_ 23 (some 26) ?_
      refine stepP HT_ 24 (some 27) ?_
    rotate_left
  focus
    refine stepU HT_ 20 (some 23) ?_
    refine stepU HT_ 21 (some 24) ?_
    refine stepU HT_ 22 (some 25) ?_
    refine stepP HT_ 23 (some 26) ?_
    refine stepP HT_ 24 (some 27) ?_
    refine stepU HT_ 25 (some 28) ?_
    refine stepU HT_ 26 (some 29) ?_
    refine stepU HT_ 27 (some 30) ?_
    refine stepU HT_ 28 (some 31) ?_
    refine stepU HT_ 29 (some 32) ?_
    refine stepU HT_ 30 (some 33) ?_
    refine stepU HT_ 31 (some 34) ?_
    refine stepU HT_ 32 (some 35) ?_
    refine stepU HT_ 33 (some 36) ?_
    refine stepP HT_ 34 (some 37) ?_
    refine done_ (done_of HT_.out (by kernel_rfl)) ?_
    try go_wp2
    go_ret
    exact ⟨by first | rfl | (simp [errW_none, errW_some] <;> rfl) | (simp [*, errW_none, errW_some] <;> rfl), by repeat (first | (with_reducible first | exact HB.out | apply below_alloc | apply pw_below_drewN | apply below_drew1 | refine below_set ?_ GE328.out) | exact HB.out)⟩
  focus
    refine stepU HT_ 25 (some 28) ?_
    refine stepU HT_ 26 (some 29) ?_
    refine stepU HT_ 27 (some 30) ?_
    refine stepU HT_ 28 (some 31) ?_
    refine stepU HT_ 29 (some 32) ?_
    refine stepU HT_ 30 (some 33) ?_
    refine stepU HT_ 31 (some 34) ?_
    refine stepU HT_ 32 (some 35) ?_
    refine stepU HT_ 33 (some 36) ?_
    refine stepP HT_ 34 (some 37) ?_
    refine done_ (done_of HT_.out (by kernel_rfl)) ?_
    try go_wp2
    go_ret
    exact ⟨by first | rfl | (simp [errW_none, errW_some] <;> rfl) | (simp [*, errW_none, errW_some] <;> rfl), by repeat (first | (with_reducible first | exact HB.out | apply below_alloc | apply pw_below_drewN | apply below_drew1 | refine below_set ?_ GE328.out) | exact HB.out)⟩
  iterate 2
    focus
      refine stepP HT_ 25 (some 28) ?_
      refine stepP HT_ 27 (some 30) ?_
      refine stepP HT_ 28 (some 31) ?_
      refine stepT4 HT_ HW_ 26 (some 29) hHeld ?_
      refine stepT4 HT_ HW_ 29 (some 32) hHeld ?_
      refine stepT4 HT_ HW_ 30 (some 33) hHeld ?_
      refine one_ (i := 31) (N := some 34) #[true, true, true, true, true, true, true, true, true, true, true, true, true, true, true, true, true, true, true, true, true, true, true, true, true, true, true, true, true, true, true, true, false, false, false] rfl rfl (one_of HT_.out (by kernel_rfl)) (by decide) (fun K hK => ?_)
      refine goes_ Try.func47 (by kernel_rfl) rfl #[.agg #[.int .i64 a0_0, .int .i64 a0_1, .slice A0_2 l0_2.length c0_2, .int .i64 a0_3]] (by rfl) rfl rfl (by (try simp only [List.map_toArray, List.map_cons, List.map_nil]); first | done | rfl | (simp only [List.length_drop, List.length_take]; rfl)) ?_
      with_reducible refine (rialtoref08_end.calls a0_0 a0_1 _ _ l0_2 a0_3 t332 _ ?side1 ?side2 A17.out).mono ?_
      (case side1 => repeat (first | exact (Kd.C_below HR0_2.out HB.out) | (with_reducible refine Kd.C_alloc ?_ _) | (with_reducible refine Kd.C_drewN ?_ _) | (with_reducible refine Kd.C_drew ?_)))
      (case side2 => exact HC0_2.out)
      rintro e wyi4 ⟨rfl, hb⟩
      refine ⟨_, rfl, ?_⟩
      have n0_ := Aside0.mk (blk_below (g := gb328) (o := .cells #[.int .i64 a0_0, .int .i64 a0_1, .slice A0_2 l0_2.length c0_2, .int .i64 a0_3] 26 (0, 0)) (by (with_reducible repeat (first | refine blk_drewN ?_ _ | refine blk_drew ?_ | refine blk_alloc ?_ _)); exact BK328.out) hb)
      have n1_ := Aside0.mk (below_step (by repeat (first | (with_reducible first | exact HB.out | apply below_alloc | apply pw_below_drewN | apply below_drew1 | refine below_set ?_ GE328.out) | exact HB.out)) hb)
      clear BK328
      clear HB
      have BK328 := n0_
      have HB := n1_
      clear n0_ n1_
      (try clear hb)
      (try clear hb2)
      (try clear hk)
      (try clear hi)
      refine hK.out _ _ ⟨(blk_cell BK328.out 0).trans rfl, (blk_cell BK328.out 1).trans rfl, (blk_cell BK328.out 2).trans rfl, (blk_cell BK328.out 3).trans rfl⟩ (fun hHeld => ?_)
      clear hK K
      refine norm_ (a' := ?_) ?_ ?_
      rotate_left
      · show Act.put _ (some 34) _ = _
        simp only [Act.put, List.setIfInBounds_toArray, List.set_cons_zero, List.set_cons_succ, i64_w, i32_w]
        rfl
      refine one_ (i := 32) (N := some 35) #[true, true, true, true, true, true, true, true, true, true, true, true, true, true, true, true, true, true, true, true, true, true, true, true, true, true, true, true, true, true, true, true, true, false, false] rfl rfl (one_of HT_.out (by kernel_rfl)) (by decide) (fun K hK => ?_)
      refine goes_ Try.func45 (by kernel_rfl) rfl #[.int .i64 a0_3, .int .i64 a0_0, .int .i64 t332] (by rfl) rfl rfl (by (try simp only [List.map_toArray, List.map_cons, List.map_nil]); first | done | rfl | (simp only [List.length_drop, List.length_take]; rfl)) ?_
      with_reducible refine (rialtoref08_within.calls a0_3 a0_0 t332 _ _ A18.out).mono ?_
      rintro e w' ⟨rfl, ⟨nd, rfl⟩⟩
      refine ⟨_, rfl, ?_⟩
      refine hK.out _ _ ⟨(blk_cell BK328.out 0).trans rfl, (blk_cell BK328.out 1).trans rfl, (blk_cell BK328.out 2).trans rfl, (blk_cell BK328.out 3).trans rfl⟩ (fun hHeld => ?_)
      clear hK K
      refine norm_ (a' := ?_) ?_ ?_
      rotate_left
      · show Act.put _ (some 35) _ = _
        simp only [Act.put, List.setIfInBounds_toArray, List.set_cons_zero, List.set_cons_succ, i64_w, i32_w]
        rfl
      refine stepP HT_ 33 (some 36) ?_
      refine stepP HT_ 34 (some 37) ?_
      refine done_ (done_of HT_.out (by kernel_rfl)) ?_
      try go_wp2
      go_ret
      exact ⟨by first | rfl | (simp [errW_none, errW_some] <;> rfl) | (simp [*, errW_none, errW_some] <;> rfl), by repeat (first | (with_reducible first | exact HB.out | apply below_alloc | apply pw_below_drewN | apply below_drew1 | refine below_set ?_ GE328.out) | exact HB.out)⟩

end Go.Proofs.Ytiebeiloooblpaa.E
end
section
-- written by myprint.py, a program of this session over the kit's print.py
namespace Go.Proofs.Ytiebeiloooblpaa.E
open Go.RowKit Go.Proofs.YtiebeiloooblpaaW.PrintWords Go.Proofs.YtiebeiloooblpaaW.PrintLast Go.Proofs.YtiebeiloooblpaaW.PrintMore
attribute [local go_sem] max2_int min2_int max_two min_two max_three min_three max_four min_four   -- for this text's walks alone
set_option linter.unusedVariables false
set_option linter.unusedSimpArgs false

/-! ### rialtoref08_TermAt: function 28 -/
def rialtoref08_TermAt.j0 : Nat → Int → Bool → Int → Int → List (S33) → Int → Option (Int × Bool)
  | 0, _, _, _, _, _, _ => none
  | k + 1, x1, x21, x335000, x335001, x335002, x335003 => if x21 = true then (some (0, false)) else (if x1 = x335000 then (some (x335001, true)) else (if 0 ≤ (wrap64 ((wrap64 (x1 - x335000)) - 1)) then (if (wrap64 ((wrap64 (x1 - x335000)) - 1)) < (x335002.length : Int) then (some ((rd_T33 x335002 (wrap64 ((wrap64 (x1 - x335000)) - 1))).f0, true)) else (none)) else (none)))
def rialtoref08_TermAt.f (k : Nat) (a0_0 : Int) (a0_1 : Int) (l0_2 : List (S33)) (a0_3 : Int) (a1 : Int) : Option (Int × Bool) := (rialtoref08_Check.f k a0_0 a0_1 l0_2 a0_3).bind fun t335 => (if t335 = 0 then (if a1 < a0_0 then (rialtoref08_TermAt.j0 k a1 true a0_0 a0_1 l0_2 a0_3) else ((rialtoref08_end.f a0_0 a0_1 l0_2 a0_3).bind fun t336 => (rialtoref08_TermAt.j0 k a1 (decide (a1 > t336)) a0_0 a0_1 l0_2 a0_3))) else (rialtoref08_TermAt.j0 k a1 true a0_0 a0_1 l0_2 a0_3))
set_option maxHeartbeats 8000000 in
set_option maxRecDepth 100000 in
theorem rialtoref08_TermAt.calls (k : Nat) (a0_0 : Int) (a0_1 : Int) (A0_2 : Option Addr) (c0_2 : Nat) (l0_2 : List (S33)) (a0_3 : Int) (a1 : Int) (r1 : Int) (r2 : Bool) (w : World) (hr0_2 : Kd.C k33 w A0_2 l0_2.length l0_2) (hc0_2 : l0_2.length ≤ c0_2) (h : rialtoref08_TermAt.f k a0_0 a0_1 l0_2 a0_3 a1 = some (r1, r2)) :
    Calls Try.prog 28 #[.agg #[.int .i64 a0_0, .int .i64 a0_1, .slice A0_2 l0_2.length c0_2, .int .i64 a0_3], .int .i64 a1] w fun e w' => e = .returned (.tuple #[.int .i64 r1, .bool r2]) ∧ Below w.heap.size w w' := by
  have hu26 := Try.underlying26
  have HR0_2 := Aside0.mk hr0_2
  have HC0_2 := Aside0.mk hc0_2
  clear hr0_2 hc0_2
  have HB := Aside0.mk (Below.refl w.heap.size w)
  have H : ((rialtoref08_Check.f k a0_0 a0_1 l0_2 a0_3).bind fun t335 => (if t335 = 0 then (if a1 < a0_0 then (rialtoref08_TermAt.j0 k a1 true a0_0 a0_1 l0_2 a0_3) else ((rialtoref08_end.f a0_0 a0_1 l0_2 a0_3).bind fun t336 => (rialtoref08_TermAt.j0 k a1 (decide (a1 > t336)) a0_0 a0_1 l0_2 a0_3))) else (rialtoref08_TermAt.j0 k a1 true a0_0 a0_1 l0_2 a0_3))) = some (r1, r2) := h
  clear h
  have HC3 := Aside0.mk H
  clear H
  go_enter Try.func28, Try.ntmps28
  go_upto_region 1 with (first | ((with_reducible refine gate_dst (N := 2) rfl ?_); refine box_event ?hg (N := 2) ?hd (cs := #[.int .i64 a0_0, .int .i64 a0_1, .slice A0_2 l0_2.length c0_2, .int .i64 a0_3]) (t := 26) ?hr ?_; (case hd => rfl); (case hg => rfl); (case hr => first | (go_simp; done) | (go_simp; rfl)); intro gb334 hg w4 hbox hb; have n0_ := Aside0.mk (below_step (by repeat (first | (with_reducible first | exact HB.out | apply below_alloc | apply pw_below_drewN | apply below_drew1) | exact HB.out)) hb); have n1_ := Aside0.mk (hbox); have n2_ := Aside0.mk ((by rw [hg]; exact (below_size (by repeat (first | (with_reducible first | exact HB.out | apply below_alloc | apply pw_below_drewN | apply below_drew1) | exact HB.out))) : w.heap.size ≤ gb334)); have n3_ := Aside0.mk ((by rw [hg]; exact (below_size (by repeat (first | (with_reducible first | exact HB.out | apply below_alloc | apply pw_below_drewN | apply below_drew1) | exact HB.out))) : w.heap.size ≤ gb334)); clear HB; have HB := n0_; have BK334 := n1_; have GW334 := n2_; have GE334 := n3_; clear n0_ n1_ n2_ n3_; clear hb hbox hg))
  (try simp only [Act.put, List.setIfInBounds_toArray, List.set_cons_zero, List.set_cons_succ])
  go_cut [21] (fun v21 wc => ∃ (kq : Nat) (x21_2 : Bool), v21 = .bool x21_2 ∧ Aside0 (rialtoref08_TermAt.j0 kq a1 x21_2 a0_0 a0_1 l0_2 a0_3 = some (r1, r2)) ∧ Aside0 (kq ≤ k) ∧ Aside0 (wc.heap[gb334]? = some (.cells #[.int .i64 a0_0, .int .i64 a0_1, (.slice A0_2 l0_2.length c0_2), .int .i64 a0_3] 26 (0, 0))) ∧ Aside0 (Below w.heap.size w wc))
  case first =>
    have H := HC3.out
    clear HC3
    replace H := Option.bind_eq_some_iff.mp H
    obtain ⟨t335, A50, H⟩ := H
    replace H : (if t335 = 0 then (if a1 < a0_0 then (rialtoref08_TermAt.j0 k a1 true a0_0 a0_1 l0_2 a0_3) else ((rialtoref08_end.f a0_0 a0_1 l0_2 a0_3).bind fun t336 => (rialtoref08_TermAt.j0 k a1 (decide (a1 > t336)) a0_0 a0_1 l0_2 a0_3))) else (rialtoref08_TermAt.j0 k a1 true a0_0 a0_1 l0_2 a0_3)) = some (r1, r2) := H
    have A5 := Aside0.mk A50
    clear A50
    by_cases c6 : t335 = 0
    focus
      rw [if_pos c6] at H
      have c6b0 : (t335 == 0) = true := beq_iff_eq.mpr c6
      have c6b1 : (t335 != 0) = false := bne_eq_false_iff_eq.mpr c6
      clear c6
      (first | rw [c6b0] | (simp only [i64_w, i32_w]; rw [c6b0]) | skip)
      by_cases c7 : a1 < a0_0
      focus
        rw [if_pos c7] at H
        have c7b0 : decide (a1 < a0_0) = true := decide_eq_true c7
        clear c7
        have H' := Aside0.mk H
        clear H
      rotate_left 1
      focus
        rw [if_neg c7] at H
        have c7b0 : decide (a1 < a0_0) = false := decide_eq_false c7
        clear c7
        replace H := Option.bind_eq_some_iff.mp H
        obtain ⟨t336, A110, H⟩ := H
        replace H : (rialtoref08_TermAt.j0 k a1 (decide (a1 > t336)) a0_0 a0_1 l0_2 a0_3) = some (r1, r2) := H
        have A11 := Aside0.mk A110
        clear A110
        have H' := Aside0.mk H
        clear H
      rotate_left 1
    rotate_left 2
    focus
      rw [if_neg c6] at H
      have c6b0 : (t335 == 0) = false := beq_eq_false_iff_ne.mpr c6
      have c6b1 : (t335 != 0) = true := bne_iff_ne.mpr c6
      (first | rw [c6b0] | (simp only [i64_w, i32_w]; rw [c6b0]) | skip)
      have H' := Aside0.mk H
      clear H
    rotate_left 1
    all_goals
      have hczyb334_0 : w4.cell? ⟨gb334, 0, none⟩ = some (.int .i64 a0_0) := (blk_cell BK334.out 0).trans rfl
      have hczyb334_1 : w4.cell? ⟨gb334, 1, none⟩ = some (.int .i64 a0_1) := (blk_cell BK334.out 1).trans rfl
      have hczyb334_2 : w4.cell? ⟨gb334, 2, none⟩ = some (.slice A0_2 l0_2.length c0_2) := (blk_cell BK334.out 2).trans rfl
      have hczyb334_3 : w4.cell? ⟨gb334, 3, none⟩ = some (.int .i64 a0_3) := (blk_cell BK334.out 3).trans rfl
      have hfzyb334_0 := blk_frozen BK334.out 0
      have hfzyb334_1 := blk_frozen BK334.out 1
      have hfzyb334_2 := blk_frozen BK334.out 2
      have hfzyb334_3 := blk_frozen BK334.out 3
      go_wp2_with (first | ((with_reducible refine gate_callee (f := 31) rfl ?_); refine goesL_ (some 7) rfl rfl Try.func31 (by kernel_rfl) rfl #[.agg #[.int .i64 a0_0, .int .i64 a0_1, .slice A0_2 l0_2.length c0_2, .int .i64 a0_3]] rfl (by (try simp only [List.map_toArray, List.map_cons, List.map_nil]); first | done | rfl | (simp only [List.length_drop, List.length_take]; rfl)) ?_; (with_reducible refine (rialtoref08_Check.calls k a0_0 a0_1 _ _ l0_2 a0_3 t335 _ ?side1 ?side2 A5.out).mono ?_); (case side1 => repeat (first | exact (Kd.C_below HR0_2.out HB.out) | (with_reducible refine Kd.C_alloc ?_ _) | (with_reducible refine Kd.C_drewN ?_ _) | (with_reducible refine Kd.C_drew ?_))); (case side2 => exact HC0_2.out); rintro e wx7i0 ⟨rfl, hb⟩; refine ⟨_, rfl, ?_⟩; have n0_ := Aside0.mk (blk_below (g := gb334) (o := .cells #[.int .i64 a0_0, .int .i64 a0_1, .slice A0_2 l0_2.length c0_2, .int .i64 a0_3] 26 (0, 0)) (by (with_reducible repeat (first | refine blk_drewN ?_ _ | refine blk_drew ?_ | refine blk_alloc ?_ _)); exact BK334.out) hb); have n1_ := Aside0.mk (below_step (by repeat (first | (with_reducible first | exact HB.out | apply below_alloc | apply pw_below_drewN | apply below_drew1 | refine below_set ?_ GE334.out) | exact HB.out)) hb); clear BK334; clear HB; have BK334 := n0_; have HB := n1_; clear n0_ n1_; (try clear hb); (try clear hb2); (try clear hk); (try clear hi); (try have hczx7b334_0 : wx7i0.cell? ⟨gb334, 0, none⟩ = some (.int .i64 a0_0) := (blk_cell BK334.out 0).trans rfl); (try have hczx7b334_1 : wx7i0.cell? ⟨gb334, 1, none⟩ = some (.int .i64 a0_1) := (blk_cell BK334.out 1).trans rfl); (try have hczx7b334_2 : wx7i0.cell? ⟨gb334, 2, none⟩ = some (.slice A0_2 l0_2.length c0_2) := (blk_cell BK334.out 2).trans rfl); (try have hczx7b334_3 : wx7i0.cell? ⟨gb334, 3, none⟩ = some (.int .i64 a0_3) := (blk_cell BK334.out 3).trans rfl); (try have hfzx7b334_0 := blk_frozen BK334.out 0); (try have hfzx7b334_1 := blk_frozen BK334.out 1); (try have hfzx7b334_2 := blk_frozen BK334.out 2); (try have hfzx7b334_3 := blk_frozen BK334.out 3)) | (go_at_call 47; (with_reducible refine (rialtoref08_end.calls a0_0 a0_1 _ _ l0_2 a0_3 t336 _ ?side1 ?side2 A11.out).mono ?_); (case side1 => repeat (first | exact (Kd.C_below HR0_2.out HB.out) | (with_reducible refine Kd.C_alloc ?_ _) | (with_reducible refine Kd.C_drewN ?_ _) | (with_reducible refine Kd.C_drew ?_))); (case side2 => exact HC0_2.out); rintro e wyi0 ⟨rfl, hb⟩; have n0_ := Aside0.mk (blk_below (g := gb334) (o := .cells #[.int .i64 a0_0, .int .i64 a0_1, .slice A0_2 l0_2.length c0_2, .int .i64 a0_3] 26 (0, 0)) (by (with_reducible repeat (first | refine blk_drewN ?_ _ | refine blk_drew ?_ | refine blk_alloc ?_ _)); exact BK334.out) hb); have n1_ := Aside0.mk (below_step (by repeat (first | (with_reducible first | exact HB.out | apply below_alloc | apply pw_below_drewN | apply below_drew1 | refine below_set ?_ GE334.out) | exact HB.out)) hb); clear BK334; clear HB; have BK334 := n0_; have HB := n1_; clear n0_ n1_; (try clear hb); (try clear hb2); (try clear hk); (try clear hi)))
      go_meet
      case rel => (first | exact ⟨_, (true), (by first | rfl | (simp; done) | (simp [*]; done)), H', ⟨by first | omega | exact Nat.le_refl _⟩, ⟨by (with_reducible repeat (first | refine blk_drewN ?_ _ | refine blk_drew ?_ | refine blk_alloc ?_ _)); exact BK334.out⟩, ⟨by repeat (first | (with_reducible first | exact HB.out | apply below_alloc | apply pw_below_drewN | apply below_drew1 | refine below_set ?_ GE334.out) | exact HB.out)⟩⟩ | exact ⟨_, (decide (a1 > t336)), (by first | rfl | (simp; done) | (simp [*]; done)), H', ⟨by first | omega | exact Nat.le_refl _⟩, ⟨by (with_reducible repeat (first | refine blk_drewN ?_ _ | refine blk_drew ?_ | refine blk_alloc ?_ _)); exact BK334.out⟩, ⟨by repeat (first | (with_reducible first | exact HB.out | apply below_alloc | apply pw_below_drewN | apply below_drew1 | refine below_set ?_ GE334.out) | exact HB.out)⟩⟩)
  case rest =>
    clear HC3
    obtain ⟨kq, x21_2, rfl, HA, HJ2, BK334, HB⟩ := hcut
    cases kq with
    | zero => exact absurd HA.out (by simp [rialtoref08_TermAt.j0])
    | succ kj2 =>
      have H := HA.out
      clear HA
      simp only [rialtoref08_TermAt.j0] at H
      by_cases c18 : x21_2 = true
      · subst c18
        have H1 : (some (0, false)) = some (r1, r2) := by rw [if_pos rfl] at H; exact H
        clear H
        have H := H1
        clear H1
        simp only [Option.some.injEq, Prod.mk.injEq] at H
        obtain ⟨rfl, rfl⟩ := H
        go_wp2
        go_ret2
        exact ⟨by first | rfl | (simp [errW_none, errW_some] <;> rfl) | (simp [*, errW_none, errW_some] <;> rfl), by repeat (first | (with_reducible first | exact HB.out | apply below_alloc | apply pw_below_drewN | apply below_drew1 | refine below_set ?_ GE334.out) | exact HB.out)⟩
      · replace c18 := Bool.eq_false_iff.mpr c18
        subst c18
        have H1 : (if a1 = a0_0 then (some (a0_1, true)) else (if 0 ≤ (wrap64 ((wrap64 (a1 - a0_0)) - 1)) then (if (wrap64 ((wrap64 (a1 - a0_0)) - 1)) < (l0_2.length : Int) then (some ((rd_T33 l0_2 (wrap64 ((wrap64 (a1 - a0_0)) - 1))).f0, true)) else (none)) else (none))) = some (r1, r2) := by rw [if_neg (show ¬ (false = true) by decide)] at H; exact H
        clear H
        have H := H1
        clear H1
        by_cases c19 : a1 = a0_0
        · rw [if_pos c19] at H
          have c19b0 : (a1 == a0_0) = true := beq_iff_eq.mpr c19
          have c19b1 : (a1 != a0_0) = false := bne_eq_false_iff_eq.mpr c19
          clear c19
          simp only [Option.some.injEq, Prod.mk.injEq] at H
          obtain ⟨rfl, rfl⟩ := H
          have hcz20_0 : wc.cell? ⟨gb334, 0, none⟩ = some (.int .i64 a0_0) := (blk_cell BK334.out 0).trans rfl
          have hcz20_1 : wc.cell? ⟨gb334, 1, none⟩ = some (.int .i64 a0_1) := (blk_cell BK334.out 1).trans rfl
          have hcz20_2 : wc.cell? ⟨gb334, 2, none⟩ = some (.slice A0_2 l0_2.length c0_2) := (blk_cell BK334.out 2).trans rfl
          have hcz20_3 : wc.cell? ⟨gb334, 3, none⟩ = some (.int .i64 a0_3) := (blk_cell BK334.out 3).trans rfl
          have hfz20_0 := blk_frozen BK334.out 0
          have hfz20_1 := blk_frozen BK334.out 1
          have hfz20_2 := blk_frozen BK334.out 2
          have hfz20_3 := blk_frozen BK334.out 3
          go_wp2
          go_ret2
          exact ⟨by first | rfl | (simp [errW_none, errW_some] <;> rfl) | (simp [*, errW_none, errW_some] <;> rfl), by repeat (first | (with_reducible first | exact HB.out | apply below_alloc | apply pw_below_drewN | apply below_drew1 | refine below_set ?_ GE334.out) | exact HB.out)⟩
        · rw [if_neg c19] at H
          have c19b0 : (a1 == a0_0) = false := beq_eq_false_iff_ne.mpr c19
          have c19b1 : (a1 != a0_0) = true := bne_iff_ne.mpr c19
          obtain ⟨ji21, hji21⟩ : ∃ j_ : Int, (wrap64 ((wrap64 (a1 - a0_0)) - 1)) = j_ := ⟨_, rfl⟩
          replace H : (if 0 ≤ (ji21) then (if (ji21) < (l0_2.length : Int) then (some ((rd_T33 l0_2 (ji21)).f0, true)) else (none)) else (none)) = some (r1, r2) := by first | (rw [hji21] at H; exact H) | (simp only [hji21] at H ⊢; exact H)
          have hji21w : (IntKind.i64.wrap ((wrap64 (a1 - a0_0)) - 1)) = ji21 := (i64_w _).trans hji21
          by_cases c22 : 0 ≤ (ji21)
          · rw [if_pos c22] at H
            have c22b0 : decide (0 ≤ (ji21)) = true := decide_eq_true c22
            clear c22
            by_cases c23 : (ji21) < (l0_2.length : Int)
            · rw [if_pos c23] at H
              have c23b0 : decide ((ji21) < (l0_2.length : Int)) = true := decide_eq_true c23
              clear c23
              simp only [Option.some.injEq, Prod.mk.injEq] at H
              obtain ⟨rfl, rfl⟩ := H
              have hcz24_0 : wc.cell? ⟨gb334, 0, none⟩ = some (.int .i64 a0_0) := (blk_cell BK334.out 0).trans rfl
              have hcz24_1 : wc.cell? ⟨gb334, 1, none⟩ = some (.int .i64 a0_1) := (blk_cell BK334.out 1).trans rfl
              have hcz24_2 : wc.cell? ⟨gb334, 2, none⟩ = some (.slice A0_2 l0_2.length c0_2) := (blk_cell BK334.out 2).trans rfl
              have hcz24_3 : wc.cell? ⟨gb334, 3, none⟩ = some (.int .i64 a0_3) := (blk_cell BK334.out 3).trans rfl
              have hfz24_0 := blk_frozen BK334.out 0
              have hfz24_1 := blk_frozen BK334.out 1
              have hfz24_2 := blk_frozen BK334.out 2
              have hfz24_3 := blk_frozen BK334.out 3
              have p337 : 0 ≤ ((ji21) : Int) := of_decide_eq_true (by first | (with_reducible assumption) | assumption)
              have q337 : (ji21) < (l0_2.length : Int) := of_decide_eq_true (by first | (with_reducible assumption) | assumption)
              obtain ⟨ad337, e337, hx337_0, hx337_1, hx337_2⟩ := at_T33 HR0_2.out (ji21) p337 q337
              cases e337
              replace hx337_0 := (HB.out.cell (World.block_lt_of_cell? w _ hx337_0)).trans hx337_0
              replace hx337_1 := (HB.out.cell (World.block_lt_of_cell? w _ hx337_1)).trans hx337_1
              replace hx337_2 := (HB.out.cell (World.block_lt_of_cell? w _ hx337_2)).trans hx337_2
              replace p337 := eq_true p337
              replace q337 := eq_true q337
              go_wp2
              go_ret2
              exact ⟨by first | rfl | (simp [errW_none, errW_some] <;> rfl) | (simp only [← hji21]; first | rfl | (simp [errW_none, errW_some] <;> rfl)) | (simp [*, errW_none, errW_some] <;> rfl), by repeat (first | (with_reducible first | exact HB.out | apply below_alloc | apply pw_below_drewN | apply below_drew1 | refine below_set ?_ GE334.out) | exact HB.out)⟩
            · rw [if_neg c23] at H
              exact absurd H (by simp)
          · rw [if_neg c22] at H
            exact absurd H (by simp)

end Go.Proofs.Ytiebeiloooblpaa.E
end
