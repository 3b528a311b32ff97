/- Part 7 of the proof of EntriesAdd: the texts that it needs, put together by a program of this session. -/
import Derived.ChangeArms
import Derived.Deep.Slices
import Derived.ProofKit
import Derived.RowKit
import Derived.Test.YtiebeiloooblpaaRows
import Derived.Test.YtiebeiloooblpaaMEntriesAdd6
section
-- written by myprint.py, a program of this session over the kit's print.py
namespace Go.Proofs.Ytiebeiloooblpaa.E
open Go.RowKit Go.Proofs.YtiebeiloooblpaaW.PrintWords Go.Proofs.YtiebeiloooblpaaW.PrintLast Go.Proofs.YtiebeiloooblpaaW.PrintMore
attribute [local go_sem] max2_int min2_int max_two min_two max_three min_three max_four min_four   -- for this text's walks alone
set_option linter.unusedVariables false
set_option linter.unusedSimpArgs false

/-! ### rialtolaw08_EntriesAdd: function 12 -/
def rialtolaw08_EntriesAdd.j0 : Nat → Bool → Int → Int → List (S33) → Int → Int → Int → List (S33) → Int → Int → Int → List (S33) → Int → Option (Bool)
  | 0, _, _, _, _, _, _, _, _, _, _, _, _, _ => none
  | k + 1, x38, x429000, x429001, x429002, x429003, x437000, x437001, x437002, x437003, x445000, x445001, x445002, x445003 => if x38 = true then (some false) else ((rialtolaw08_spoil.f k x445002).bind fun t455 => ((rialtoref08_Same.f k x437000 x437001 x437002 x437003 x429000 x429001 x429002 x429003).bind fun t456 => (if t456 = true then ((rialtolaw08_live.f k).bind fun t457 => (some t457)) else (some false))))
def rialtolaw08_EntriesAdd.f (k : Nat) (a0_0 : Int) (a0_1 : Int) (l0_2 : List (S33)) (a0_3 : Int) (a1_0 : Int) (a1_1 : Int) (a1_2 : ByteArray) : Option (Bool) := (rialtoref08_Copy.f a0_0 a0_1 l0_2 a0_3).bind fun bt430 => ((entries_Add.f k bt430.1 bt430.2.1 bt430.2.2.1 bt430.2.2.2 a1_0 a1_1 a1_2).bind fun bt437 => ((rialtoref08_Add.f k a0_0 a0_1 l0_2 a0_3 a1_0 a1_1 a1_2).bind fun bt445 => ((rialtoref08_Same.f k bt437.1 bt437.2.1 bt437.2.2.1 bt437.2.2.2.1 bt445.1 bt445.2.1 bt445.2.2.1 bt445.2.2.2.1).bind fun t453 => (if t453 = true then (if bt437.2.2.2.2 = bt445.2.2.2.2 then ((rialtoref08_Same.f k bt430.1 bt430.2.1 bt430.2.2.1 bt430.2.2.2 a0_0 a0_1 l0_2 a0_3).bind fun t454 => (rialtolaw08_EntriesAdd.j0 k (!t454) a0_0 a0_1 l0_2 a0_3 bt430.1 bt430.2.1 bt430.2.2.1 bt430.2.2.2 bt437.1 bt437.2.1 bt437.2.2.1 bt437.2.2.2.1)) else (rialtolaw08_EntriesAdd.j0 k true a0_0 a0_1 l0_2 a0_3 bt430.1 bt430.2.1 bt430.2.2.1 bt430.2.2.2 bt437.1 bt437.2.1 bt437.2.2.1 bt437.2.2.2.1)) else (rialtolaw08_EntriesAdd.j0 k true a0_0 a0_1 l0_2 a0_3 bt430.1 bt430.2.1 bt430.2.2.1 bt430.2.2.2 bt437.1 bt437.2.1 bt437.2.2.1 bt437.2.2.2.1)))))
set_option maxHeartbeats 8000000 in
set_option maxRecDepth 100000 in
theorem rialtolaw08_EntriesAdd.calls (k : Nat) (a0_0 : Int) (a0_1 : Int) (A0_2 : Option Addr) (c0_2 : Nat) (l0_2 : List (S33)) (a0_3 : Int) (a1_0 : Int) (a1_1 : Int) (a1_2 : ByteArray) (r : Bool) (w : World) (hr0_2 : Kd.C k33 w A0_2 l0_2.length l0_2) (hc0_2 : l0_2.length ≤ c0_2) (h : rialtolaw08_EntriesAdd.f k a0_0 a0_1 l0_2 a0_3 a1_0 a1_1 a1_2 = some r) :
    Calls Try.prog 12 #[.agg #[.int .i64 a0_0, .int .i64 a0_1, .slice A0_2 l0_2.length c0_2, .int .i64 a0_3], .agg #[.int .i64 a1_0, .int .i64 a1_1, .string a1_2]] w fun e w' => e = .returned (.bool r) ∧ Below w.heap.size w w' := by
  have hu26 := Try.underlying26
  have hu33 := Try.underlying33
  have HR0_2 := Aside0.mk hr0_2
  have HC0_2 := Aside0.mk hc0_2
  clear hr0_2 hc0_2
  have HB := Aside0.mk (Below.refl w.heap.size w)
  have H : ((rialtoref08_Copy.f a0_0 a0_1 l0_2 a0_3).bind fun bt430 => ((entries_Add.f k bt430.1 bt430.2.1 bt430.2.2.1 bt430.2.2.2 a1_0 a1_1 a1_2).bind fun bt437 => ((rialtoref08_Add.f k a0_0 a0_1 l0_2 a0_3 a1_0 a1_1 a1_2).bind fun bt445 => ((rialtoref08_Same.f k bt437.1 bt437.2.1 bt437.2.2.1 bt437.2.2.2.1 bt445.1 bt445.2.1 bt445.2.2.1 bt445.2.2.2.1).bind fun t453 => (if t453 = true then (if bt437.2.2.2.2 = bt445.2.2.2.2 then ((rialtoref08_Same.f k bt430.1 bt430.2.1 bt430.2.2.1 bt430.2.2.2 a0_0 a0_1 l0_2 a0_3).bind fun t454 => (rialtolaw08_EntriesAdd.j0 k (!t454) a0_0 a0_1 l0_2 a0_3 bt430.1 bt430.2.1 bt430.2.2.1 bt430.2.2.2 bt437.1 bt437.2.1 bt437.2.2.1 bt437.2.2.2.1)) else (rialtolaw08_EntriesAdd.j0 k true a0_0 a0_1 l0_2 a0_3 bt430.1 bt430.2.1 bt430.2.2.1 bt430.2.2.2 bt437.1 bt437.2.1 bt437.2.2.1 bt437.2.2.2.1)) else (rialtolaw08_EntriesAdd.j0 k true a0_0 a0_1 l0_2 a0_3 bt430.1 bt430.2.1 bt430.2.2.1 bt430.2.2.2 bt437.1 bt437.2.1 bt437.2.2.1 bt437.2.2.2.1)))))) = some r := h
  clear h
  replace H := Option.bind_eq_some_iff.mp H
  obtain ⟨⟨t430, t431, t432, t435⟩, A30, H⟩ := H
  replace H : ((entries_Add.f k t430 t431 t432 t435 a1_0 a1_1 a1_2).bind fun bt437 => ((rialtoref08_Add.f k a0_0 a0_1 l0_2 a0_3 a1_0 a1_1 a1_2).bind fun bt445 => ((rialtoref08_Same.f k bt437.1 bt437.2.1 bt437.2.2.1 bt437.2.2.2.1 bt445.1 bt445.2.1 bt445.2.2.1 bt445.2.2.2.1).bind fun t453 => (if t453 = true then (if bt437.2.2.2.2 = bt445.2.2.2.2 then ((rialtoref08_Same.f k t430 t431 t432 t435 a0_0 a0_1 l0_2 a0_3).bind fun t454 => (rialtolaw08_EntriesAdd.j0 k (!t454) a0_0 a0_1 l0_2 a0_3 t430 t431 t432 t435 bt437.1 bt437.2.1 bt437.2.2.1 bt437.2.2.2.1)) else (rialtolaw08_EntriesAdd.j0 k true a0_0 a0_1 l0_2 a0_3 t430 t431 t432 t435 bt437.1 bt437.2.1 bt437.2.2.1 bt437.2.2.2.1)) else (rialtolaw08_EntriesAdd.j0 k true a0_0 a0_1 l0_2 a0_3 t430 t431 t432 t435 bt437.1 bt437.2.1 bt437.2.2.1 bt437.2.2.2.1))))) = some r := H
  have A3 := Aside0.mk A30
  clear A30
  replace H := Option.bind_eq_some_iff.mp H
  obtain ⟨⟨t437, t438, t439, t442, t443⟩, A40, H⟩ := H
  replace H : ((rialtoref08_Add.f k a0_0 a0_1 l0_2 a0_3 a1_0 a1_1 a1_2).bind fun bt445 => ((rialtoref08_Same.f k t437 t438 t439 t442 bt445.1 bt445.2.1 bt445.2.2.1 bt445.2.2.2.1).bind fun t453 => (if t453 = true then (if t443 = bt445.2.2.2.2 then ((rialtoref08_Same.f k t430 t431 t432 t435 a0_0 a0_1 l0_2 a0_3).bind fun t454 => (rialtolaw08_EntriesAdd.j0 k (!t454) a0_0 a0_1 l0_2 a0_3 t430 t431 t432 t435 t437 t438 t439 t442)) else (rialtolaw08_EntriesAdd.j0 k true a0_0 a0_1 l0_2 a0_3 t430 t431 t432 t435 t437 t438 t439 t442)) else (rialtolaw08_EntriesAdd.j0 k true a0_0 a0_1 l0_2 a0_3 t430 t431 t432 t435 t437 t438 t439 t442)))) = some r := H
  have A4 := Aside0.mk A40
  clear A40
  replace H := Option.bind_eq_some_iff.mp H
  obtain ⟨⟨t445, t446, t447, t450, t451⟩, A50, H⟩ := H
  replace H : ((rialtoref08_Same.f k t437 t438 t439 t442 t445 t446 t447 t450).bind fun t453 => (if t453 = true then (if t443 = t451 then ((rialtoref08_Same.f k t430 t431 t432 t435 a0_0 a0_1 l0_2 a0_3).bind fun t454 => (rialtolaw08_EntriesAdd.j0 k (!t454) a0_0 a0_1 l0_2 a0_3 t430 t431 t432 t435 t437 t438 t439 t442)) else (rialtolaw08_EntriesAdd.j0 k true a0_0 a0_1 l0_2 a0_3 t430 t431 t432 t435 t437 t438 t439 t442)) else (rialtolaw08_EntriesAdd.j0 k true a0_0 a0_1 l0_2 a0_3 t430 t431 t432 t435 t437 t438 t439 t442))) = some r := H
  have A5 := Aside0.mk A50
  clear A50
  have HC6 := Aside0.mk H
  clear H
  go_enter Try.func12, Try.ntmps12
  go_upto_region 4 with (first | ((with_reducible refine gate_dst (N := 2) rfl ?_); refine box_event ?hg (N := 2) ?hd (cs := #[.int .i64 a0_0, .int .i64 a0_1, .slice A0_2 l0_2.length c0_2, .int .i64 a0_3]) (t := 26) ?hr ?_; (case hd => rfl); (case hg => rfl); (case hr => first | (go_simp; done) | (go_simp; rfl)); intro gb428 hg w7 hbox hb; have n0_ := Aside0.mk (below_step (by repeat (first | (with_reducible first | exact HB.out | apply below_alloc | apply pw_below_drewN | apply below_drew1) | exact HB.out)) hb); have n1_ := Aside0.mk (hbox); have n2_ := Aside0.mk ((by rw [hg]; exact (below_size (by repeat (first | (with_reducible first | exact HB.out | apply below_alloc | apply pw_below_drewN | apply below_drew1) | exact HB.out))) : w.heap.size ≤ gb428)); have n3_ := Aside0.mk ((by rw [hg]; exact (below_size (by repeat (first | (with_reducible first | exact HB.out | apply below_alloc | apply pw_below_drewN | apply below_drew1) | exact HB.out))) : w.heap.size ≤ gb428)); clear HB; have HB := n0_; have BK428 := n1_; have GW428 := n2_; have GE428 := n3_; clear n0_ n1_ n2_ n3_; clear hb hbox hg) | ((with_reducible refine gate_dst (N := 3) rfl ?_); refine box_event ?hg (N := 3) ?hd (cs := #[.int .i64 a1_0, .int .i64 a1_1, .string a1_2]) (t := 33) ?hr ?_; (case hd => rfl); (case hg => rfl); (case hr => first | (go_simp; done) | (go_simp; rfl)); intro gb429 hg w8 hbox hb; have n0_ := Aside0.mk (blk_below (g := gb428) (o := .cells #[.int .i64 a0_0, .int .i64 a0_1, .slice A0_2 l0_2.length c0_2, .int .i64 a0_3] 26 (0, 0)) (by (with_reducible repeat (first | refine blk_drewN ?_ _ | refine blk_drew ?_ | refine blk_alloc ?_ _)); exact BK428.out) hb); have n1_ := Aside0.mk (below_step (by repeat (first | (with_reducible first | exact HB.out | apply below_alloc | apply pw_below_drewN | apply below_drew1 | refine below_set ?_ GE428.out) | exact HB.out)) hb); have n2_ := Aside0.mk (hbox); have n3_ := Aside0.mk ((by rw [hg]; exact (below_size (by repeat (first | (with_reducible first | exact HB.out | apply below_alloc | apply pw_below_drewN | apply below_drew1 | refine below_set ?_ GE428.out) | exact HB.out))) : w.heap.size ≤ gb429)); have n4_ := Aside0.mk ((by rw [hg]; exact (below_size (by repeat (first | (with_reducible first | exact HB.out | apply below_alloc | apply pw_below_drewN | apply below_drew1 | refine below_set ?_ GE428.out) | exact HB.out))) : w.heap.size ≤ gb429)); have n5_ := Aside0.mk ((by rw [hg]; exact Nat.ne_of_lt (blk_lt (g := gb428) (o := .cells #[.int .i64 a0_0, .int .i64 a0_1, .slice A0_2 l0_2.length c0_2, .int .i64 a0_3] 26 (0, 0)) (by (with_reducible repeat (first | refine blk_drewN ?_ _ | refine blk_drew ?_ | refine blk_alloc ?_ _)); exact BK428.out)) : gb428 ≠ gb429)); have n6_ := Aside0.mk ((by rw [hg]; exact Nat.ne_of_gt (blk_lt (g := gb428) (o := .cells #[.int .i64 a0_0, .int .i64 a0_1, .slice A0_2 l0_2.length c0_2, .int .i64 a0_3] 26 (0, 0)) (by (with_reducible repeat (first | refine blk_drewN ?_ _ | refine blk_drew ?_ | refine blk_alloc ?_ _)); exact BK428.out)) : gb429 ≠ gb428)); clear BK428; clear HB; have BK428 := n0_; have HB := n1_; have BK429 := n2_; have GW429 := n3_; have GE429 := n4_; have NB428_429 := n5_; have NB429_428 := n6_; clear n0_ n1_ n2_ n3_ n4_ n5_ n6_; clear hb hbox hg; have hnb9 := NB428_429.out; have hnc9 := NB429_428.out; have hcz10_0 : w8.cell? ⟨gb428, 0, none⟩ = some (.int .i64 a0_0) := (blk_cell BK428.out 0).trans rfl; have hcz10_1 : w8.cell? ⟨gb428, 1, none⟩ = some (.int .i64 a0_1) := (blk_cell BK428.out 1).trans rfl; have hcz10_2 : w8.cell? ⟨gb428, 2, none⟩ = some (.slice A0_2 l0_2.length c0_2) := (blk_cell BK428.out 2).trans rfl; have hcz10_3 : w8.cell? ⟨gb428, 3, none⟩ = some (.int .i64 a0_3) := (blk_cell BK428.out 3).trans rfl; have hfz10_0 := blk_frozen BK428.out 0; have hfz10_1 := blk_frozen BK428.out 1; have hfz10_2 := blk_frozen BK428.out 2; have hfz10_3 := blk_frozen BK428.out 3) | ((with_reducible refine gate_callee (f := 13) rfl ?_); refine goesL_ (some 11) rfl rfl Try.func13 (by kernel_rfl) rfl #[.agg #[.int .i64 a0_0, .int .i64 a0_1, .slice A0_2 l0_2.length c0_2, .int .i64 a0_3]] rfl (by (try simp only [List.map_toArray, List.map_cons, List.map_nil]); first | done | rfl | (simp only [List.length_drop, List.length_take]; rfl)) ?_; (with_reducible refine (rialtoref08_Copy.calls a0_0 a0_1 _ _ l0_2 a0_3 t430 t431 t432 t435 _ ?side1 ?side2 A3.out).mono ?_); (case side1 => repeat (first | exact (Kd.C_below HR0_2.out HB.out) | (with_reducible refine Kd.C_alloc ?_ _) | (with_reducible refine Kd.C_drewN ?_ _) | (with_reducible refine Kd.C_drew ?_))); (case side2 => exact HC0_2.out); rintro e w11 ⟨v433, rfl, ho0, hb⟩; refine ⟨_, rfl, ?_⟩; have n0_ := Aside0.mk (Kd.R_lower (Kd.R_newB ho0 (g := gb429) (o := .cells #[.int .i64 a1_0, .int .i64 a1_1, .string a1_2] 33 (0, 0)) (by (with_reducible repeat (first | refine blk_drewN ?_ _ | refine blk_drew ?_ | refine blk_alloc ?_ _)); exact BK429.out)) (below_size (by repeat (first | (with_reducible first | exact HB.out | apply below_alloc | apply pw_below_drewN | apply below_drew1 | refine below_set ?_ GE428.out | refine below_set ?_ GE429.out) | exact HB.out)))); have n1_ := Aside0.mk (blk_below (g := gb428) (o := .cells #[.int .i64 a0_0, .int .i64 a0_1, .slice A0_2 l0_2.length c0_2, .int .i64 a0_3] 26 (0, 0)) (by (with_reducible repeat (first | refine blk_drewN ?_ _ | refine blk_drew ?_ | refine blk_alloc ?_ _)); exact BK428.out) hb); have n2_ := Aside0.mk (blk_below (g := gb429) (o := .cells #[.int .i64 a1_0, .int .i64 a1_1, .string a1_2] 33 (0, 0)) (by (with_reducible repeat (first | refine blk_drewN ?_ _ | refine blk_drew ?_ | refine blk_alloc ?_ _)); exact BK429.out) hb); have n3_ := Aside0.mk (below_step (by repeat (first | (with_reducible first | exact HB.out | apply below_alloc | apply pw_below_drewN | apply below_drew1 | refine below_set ?_ GE428.out | refine below_set ?_ GE429.out) | exact HB.out)) hb); clear BK428; clear BK429; clear HB; have HO434 := n0_; have BK428 := n1_; have BK429 := n2_; have HB := n3_; clear n0_ n1_ n2_ n3_; (try clear hb); (try clear hb2); (try clear hk); (try clear hi); (try clear ho0)) | ((with_reducible refine gate_dst (N := 5) rfl ?_); refine box_event ?hg (N := 5) ?hd (cs := #[.int .i64 0, .int .i64 0, .slice none 0 0, .int .i64 0]) (t := 26) ?hr ?_; (case hd => rfl); (case hg => rfl); (case hr => first | (go_simp; done) | (go_simp; rfl)); intro gb436 hg w12 hbox hb; have n0_ := Aside0.mk (Kd.R_below (by (with_reducible repeat (first | apply Kd.R_alloc | apply Kd.R_drewN | apply Kd.R_drew)); exact HO434.out) hb); have n1_ := Aside0.mk (blk_below (g := gb428) (o := .cells #[.int .i64 a0_0, .int .i64 a0_1, .slice A0_2 l0_2.length c0_2, .int .i64 a0_3] 26 (0, 0)) (by (with_reducible repeat (first | refine blk_drewN ?_ _ | refine blk_drew ?_ | refine blk_alloc ?_ _)); exact BK428.out) hb); have n2_ := Aside0.mk (blk_below (g := gb429) (o := .cells #[.int .i64 a1_0, .int .i64 a1_1, .string a1_2] 33 (0, 0)) (by (with_reducible repeat (first | refine blk_drewN ?_ _ | refine blk_drew ?_ | refine blk_alloc ?_ _)); exact BK429.out) hb); have n3_ := Aside0.mk (below_step (by repeat (first | (with_reducible first | exact HB.out | apply below_alloc | apply pw_below_drewN | apply below_drew1 | refine below_set ?_ GE428.out | refine below_set ?_ GE429.out) | exact HB.out)) hb); have n4_ := Aside0.mk (hbox); have n5_ := Aside0.mk ((by rw [hg]; exact (below_size (by repeat (first | (with_reducible first | exact HB.out | apply below_alloc | apply pw_below_drewN | apply below_drew1 | refine below_set ?_ GE428.out | refine below_set ?_ GE429.out) | exact HB.out))) : w.heap.size ≤ gb436)); have n6_ := Aside0.mk ((by rw [hg]; exact (below_size (by repeat (first | (with_reducible first | exact HB.out | apply below_alloc | apply pw_below_drewN | apply below_drew1 | refine below_set ?_ GE428.out | refine below_set ?_ GE429.out) | exact HB.out))) : w.heap.size ≤ gb436)); have n7_ := Aside0.mk ((by rw [hg]; exact Nat.ne_of_lt (blk_lt (g := gb428) (o := .cells #[.int .i64 a0_0, .int .i64 a0_1, .slice A0_2 l0_2.length c0_2, .int .i64 a0_3] 26 (0, 0)) (by (with_reducible repeat (first | refine blk_drewN ?_ _ | refine blk_drew ?_ | refine blk_alloc ?_ _)); exact BK428.out)) : gb428 ≠ gb436)); have n8_ := Aside0.mk ((by rw [hg]; exact Nat.ne_of_gt (blk_lt (g := gb428) (o := .cells #[.int .i64 a0_0, .int .i64 a0_1, .slice A0_2 l0_2.length c0_2, .int .i64 a0_3] 26 (0, 0)) (by (with_reducible repeat (first | refine blk_drewN ?_ _ | refine blk_drew ?_ | refine blk_alloc ?_ _)); exact BK428.out)) : gb436 ≠ gb428)); have n9_ := Aside0.mk ((by rw [hg]; exact Nat.ne_of_lt (blk_lt (g := gb429) (o := .cells #[.int .i64 a1_0, .int .i64 a1_1, .string a1_2] 33 (0, 0)) (by (with_reducible repeat (first | refine blk_drewN ?_ _ | refine blk_drew ?_ | refine blk_alloc ?_ _)); exact BK429.out)) : gb429 ≠ gb436)); have n10_ := Aside0.mk ((by rw [hg]; exact Nat.ne_of_gt (blk_lt (g := gb429) (o := .cells #[.int .i64 a1_0, .int .i64 a1_1, .string a1_2] 33 (0, 0)) (by (with_reducible repeat (first | refine blk_drewN ?_ _ | refine blk_drew ?_ | refine blk_alloc ?_ _)); exact BK429.out)) : gb436 ≠ gb429)); clear HO434; clear BK428; clear BK429; clear HB; have HO434 := n0_; have BK428 := n1_; have BK429 := n2_; have HB := n3_; have BK436 := n4_; have GW436 := n5_; have GE436 := n6_; have NB428_436 := n7_; have NB436_428 := n8_; have NB429_436 := n9_; have NB436_429 := n10_; clear n0_ n1_ n2_ n3_ n4_ n5_ n6_ n7_ n8_ n9_ n10_; clear hb hbox hg; have hnb13 := NB436_428.out; have hnc13 := NB428_436.out; have hnb14 := NB436_429.out; have hnc14 := NB429_436.out; have hcz15_0 : w12.cell? ⟨gb436, 0, none⟩ = some (.int .i64 0) := (blk_cell BK436.out 0).trans rfl; have hcz15_1 : w12.cell? ⟨gb436, 1, none⟩ = some (.int .i64 0) := (blk_cell BK436.out 1).trans rfl; have hcz15_2 : w12.cell? ⟨gb436, 2, none⟩ = some (.slice none 0 0) := (blk_cell BK436.out 2).trans rfl; have hcz15_3 : w12.cell? ⟨gb436, 3, none⟩ = some (.int .i64 0) := (blk_cell BK436.out 3).trans rfl; have hfz15_0 := blk_frozen BK436.out 0; have hfz15_1 := blk_frozen BK436.out 1; have hfz15_2 := blk_frozen BK436.out 2; have hfz15_3 := blk_frozen BK436.out 3; obtain ⟨Ao16, co16, eo16⟩ := Kd.R_slice HO434.out; subst eo16; have hcz17_0 : w12.cell? ⟨gb429, 0, none⟩ = some (.int .i64 a1_0) := (blk_cell BK429.out 0).trans rfl; have hcz17_1 : w12.cell? ⟨gb429, 1, none⟩ = some (.int .i64 a1_1) := (blk_cell BK429.out 1).trans rfl; have hcz17_2 : w12.cell? ⟨gb429, 2, none⟩ = some (.string a1_2) := (blk_cell BK429.out 2).trans rfl; have hfz17_0 := blk_frozen BK429.out 0; have hfz17_1 := blk_frozen BK429.out 1; have hfz17_2 := blk_frozen BK429.out 2) | ((with_reducible refine gate_callee (f := 35) rfl ?_); refine goesL_ (some 15) rfl rfl Try.func35 (by kernel_rfl) rfl #[.agg #[.int .i64 t430, .int .i64 t431, .slice Ao16 t432.length co16, .int .i64 t435], .agg #[.int .i64 a1_0, .int .i64 a1_1, .string a1_2]] rfl (by (try simp only [List.map_toArray, List.map_cons, List.map_nil]); first | done | rfl | (simp only [List.length_drop, List.length_take]; rfl)) ?_; (with_reducible refine (entries_Add.calls k t430 t431 _ _ t432 t435 a1_0 a1_1 a1_2 t437 t438 t439 t442 t443 _ ?side1 ?side2 A4.out).mono ?_); (case side1 => refine (Kd.R_reads' (e := 33) (base := w.heap.size) (ok := fun k_ => (True ∧ k_ ≠ gb429)) (n := t432.length) (c := co16) ?_).2.2; exact (by (with_reducible repeat (first | apply Kd.R_alloc | apply Kd.R_drewN | apply Kd.R_drew)); exact (Kd.R_mono (Kd.R_far (p := ⟨gb436, 3, none⟩) (Kd.R_far (p := ⟨gb436, 2, none⟩) (Kd.R_far (p := ⟨gb436, 1, none⟩) (Kd.R_far (p := ⟨gb436, 0, none⟩) (Kd.R_types HO434.out BK436.out (by decide)) (fun _ hk => hk.2) (.int .i64 t430)) (fun _ hk => hk.2) (.int .i64 t431)) (fun _ hk => hk.2) (.slice Ao16 t432.length co16)) (fun _ hk => hk.2) (.int .i64 t435)) (fun _ h_ => h_.1)))); (case side2 => exact (Kd.R_reads' HO434.out).2.1); rintro e w18 ⟨v440, rfl, ho0, hb⟩; refine ⟨_, rfl, ?_⟩; have n0_ := Aside0.mk (Kd.R_elder' (by (with_reducible repeat (first | apply Kd.R_alloc | apply Kd.R_drewN | apply Kd.R_drew)); exact (Kd.R_mono (Kd.R_far (p := ⟨gb436, 3, none⟩) (Kd.R_far (p := ⟨gb436, 2, none⟩) (Kd.R_far (p := ⟨gb436, 1, none⟩) (Kd.R_far (p := ⟨gb436, 0, none⟩) (Kd.R_types HO434.out BK436.out (by decide)) (fun _ hk => hk.2) (.int .i64 t430)) (fun _ hk => hk.2) (.int .i64 t431)) (fun _ hk => hk.2) (.slice Ao16 t432.length co16)) (fun _ hk => hk.2) (.int .i64 t435)) (fun _ h_ => h_.1))) (Kd.R_base ho0) hb); have n1_ := Aside0.mk (Kd.R_lower (Kd.R_newB (Kd.R_new' ho0 (Kd.R_lt (by (with_reducible repeat (first | apply Kd.R_alloc | apply Kd.R_drewN | apply Kd.R_drew)); exact (Kd.R_mono (Kd.R_far (p := ⟨gb436, 3, none⟩) (Kd.R_far (p := ⟨gb436, 2, none⟩) (Kd.R_far (p := ⟨gb436, 1, none⟩) (Kd.R_far (p := ⟨gb436, 0, none⟩) (Kd.R_types HO434.out BK436.out (by decide)) (fun _ hk => hk.2) (.int .i64 t430)) (fun _ hk => hk.2) (.int .i64 t431)) (fun _ hk => hk.2) (.slice Ao16 t432.length co16)) (fun _ hk => hk.2) (.int .i64 t435)) (fun _ h_ => h_.1))))) (g := gb429) (o := .cells #[.int .i64 a1_0, .int .i64 a1_1, .string a1_2] 33 (0, 0)) (by (with_reducible repeat (first | refine blk_drewN ?_ _ | refine blk_drew ?_ | refine blk_alloc ?_ _)); refine blk_far ?_ NB429_436.out _; (with_reducible repeat (first | refine blk_drewN ?_ _ | refine blk_drew ?_ | refine blk_alloc ?_ _)); refine blk_far ?_ NB429_436.out _; (with_reducible repeat (first | refine blk_drewN ?_ _ | refine blk_drew ?_ | refine blk_alloc ?_ _)); refine blk_far ?_ NB429_436.out _; (with_reducible repeat (first | refine blk_drewN ?_ _ | refine blk_drew ?_ | refine blk_alloc ?_ _)); refine blk_far ?_ NB429_436.out _; (with_reducible repeat (first | refine blk_drewN ?_ _ | refine blk_drew ?_ | refine blk_alloc ?_ _)); exact BK429.out)) (below_size (by repeat (first | (with_reducible first | exact HB.out | apply below_alloc | apply pw_below_drewN | apply below_drew1 | refine below_set ?_ GE428.out | refine below_set ?_ GE429.out | refine below_set ?_ GE436.out) | exact HB.out)))); have n2_ := Aside0.mk (blk_below (g := gb428) (o := .cells #[.int .i64 a0_0, .int .i64 a0_1, .slice A0_2 l0_2.length c0_2, .int .i64 a0_3] 26 (0, 0)) (by (with_reducible repeat (first | refine blk_drewN ?_ _ | refine blk_drew ?_ | refine blk_alloc ?_ _)); refine blk_far ?_ NB428_436.out _; (with_reducible repeat (first | refine blk_drewN ?_ _ | refine blk_drew ?_ | refine blk_alloc ?_ _)); refine blk_far ?_ NB428_436.out _; (with_reducible repeat (first | refine blk_drewN ?_ _ | refine blk_drew ?_ | refine blk_alloc ?_ _)); refine blk_far ?_ NB428_436.out _; (with_reducible repeat (first | refine blk_drewN ?_ _ | refine blk_drew ?_ | refine blk_alloc ?_ _)); refine blk_far ?_ NB428_436.out _; (with_reducible repeat (first | refine blk_drewN ?_ _ | refine blk_drew ?_ | refine blk_alloc ?_ _)); exact BK428.out) hb); have n3_ := Aside0.mk (blk_below (g := gb429) (o := .cells #[.int .i64 a1_0, .int .i64 a1_1, .string a1_2] 33 (0, 0)) (by (with_reducible repeat (first | refine blk_drewN ?_ _ | refine blk_drew ?_ | refine blk_alloc ?_ _)); refine blk_far ?_ NB429_436.out _; (with_reducible repeat (first | refine blk_drewN ?_ _ | refine blk_drew ?_ | refine blk_alloc ?_ _)); refine blk_far ?_ NB429_436.out _; (with_reducible repeat (first | refine blk_drewN ?_ _ | refine blk_drew ?_ | refine blk_alloc ?_ _)); refine blk_far ?_ NB429_436.out _; (with_reducible repeat (first | refine blk_drewN ?_ _ | refine blk_drew ?_ | refine blk_alloc ?_ _)); refine blk_far ?_ NB429_436.out _; (with_reducible repeat (first | refine blk_drewN ?_ _ | refine blk_drew ?_ | refine blk_alloc ?_ _)); exact BK429.out) hb); have n4_ := Aside0.mk (blk_below (g := gb436) (o := .cells #[.int .i64 t430, .int .i64 t431, .slice Ao16 t432.length co16, .int .i64 t435] 26 (0, 0)) (by (with_reducible repeat (first | refine blk_drewN ?_ _ | refine blk_drew ?_ | refine blk_alloc ?_ _)); refine blk_put (cs := #[.int .i64 t430, .int .i64 t431, .slice Ao16 t432.length co16, .int .i64 0]) ?_ 3 _ rfl; (with_reducible repeat (first | refine blk_drewN ?_ _ | refine blk_drew ?_ | refine blk_alloc ?_ _)); refine blk_put (cs := #[.int .i64 t430, .int .i64 t431, .slice none 0 0, .int .i64 0]) ?_ 2 _ rfl; (with_reducible repeat (first | refine blk_drewN ?_ _ | refine blk_drew ?_ | refine blk_alloc ?_ _)); refine blk_put (cs := #[.int .i64 t430, .int .i64 0, .slice none 0 0, .int .i64 0]) ?_ 1 _ rfl; (with_reducible repeat (first | refine blk_drewN ?_ _ | refine blk_drew ?_ | refine blk_alloc ?_ _)); refine blk_put (cs := #[.int .i64 0, .int .i64 0, .slice none 0 0, .int .i64 0]) ?_ 0 _ rfl; (with_reducible repeat (first | refine blk_drewN ?_ _ | refine blk_drew ?_ | refine blk_alloc ?_ _)); exact BK436.out) hb); have n5_ := Aside0.mk (below_step (by repeat (first | (with_reducible first | exact HB.out | apply below_alloc | apply pw_below_drewN | apply below_drew1 | refine below_set ?_ GE428.out | refine below_set ?_ GE429.out | refine below_set ?_ GE436.out) | exact HB.out)) hb); clear HO434; clear BK428; clear BK429; clear BK436; clear HB; have HO434 := n0_; have HO441 := n1_; have BK428 := n2_; have BK429 := n3_; have BK436 := n4_; have HB := n5_; clear n0_ n1_ n2_ n3_ n4_ n5_; (try clear hb); (try clear hb2); (try clear hk); (try clear hi); (try clear ho0)) | ((with_reducible refine gate_dst (N := 6) rfl ?_); refine box_event ?hg (N := 6) ?hd (cs := #[.int .i64 0, .int .i64 0, .slice none 0 0, .int .i64 0]) (t := 26) ?hr ?_; (case hd => rfl); (case hg => rfl); (case hr => first | (go_simp; done) | (go_simp; rfl)); intro gb444 hg w19 hbox hb; have n0_ := Aside0.mk (Kd.R_below (by (with_reducible repeat (first | apply Kd.R_alloc | apply Kd.R_drewN | apply Kd.R_drew)); exact HO434.out) hb); have n1_ := Aside0.mk (Kd.R_below (by (with_reducible repeat (first | apply Kd.R_alloc | apply Kd.R_drewN | apply Kd.R_drew)); exact HO441.out) hb); have n2_ := Aside0.mk (blk_below (g := gb428) (o := .cells #[.int .i64 a0_0, .int .i64 a0_1, .slice A0_2 l0_2.length c0_2, .int .i64 a0_3] 26 (0, 0)) (by (with_reducible repeat (first | refine blk_drewN ?_ _ | refine blk_drew ?_ | refine blk_alloc ?_ _)); exact BK428.out) hb); have n3_ := Aside0.mk (blk_below (g := gb429) (o := .cells #[.int .i64 a1_0, .int .i64 a1_1, .string a1_2] 33 (0, 0)) (by (with_reducible repeat (first | refine blk_drewN ?_ _ | refine blk_drew ?_ | refine blk_alloc ?_ _)); exact BK429.out) hb); have n4_ := Aside0.mk (blk_below (g := gb436) (o := .cells #[.int .i64 t430, .int .i64 t431, .slice Ao16 t432.length co16, .int .i64 t435] 26 (0, 0)) (by (with_reducible repeat (first | refine blk_drewN ?_ _ | refine blk_drew ?_ | refine blk_alloc ?_ _)); exact BK436.out) hb); have n5_ := Aside0.mk (below_step (by repeat (first | (with_reducible first | exact HB.out | apply below_alloc | apply pw_below_drewN | apply below_drew1 | refine below_set ?_ GE428.out | refine below_set ?_ GE429.out | refine below_set ?_ GE436.out) | exact HB.out)) hb); have n6_ := Aside0.mk (hbox); have n7_ := Aside0.mk ((by rw [hg]; exact (below_size (by repeat (first | (with_reducible first | exact HB.out | apply below_alloc | apply pw_below_drewN | apply below_drew1 | refine below_set ?_ GE428.out | refine below_set ?_ GE429.out | refine below_set ?_ GE436.out) | exact HB.out))) : w.heap.size ≤ gb444)); have n8_ := Aside0.mk ((by rw [hg]; exact (below_size (by repeat (first | (with_reducible first | exact HB.out | apply below_alloc | apply pw_below_drewN | apply below_drew1 | refine below_set ?_ GE428.out | refine below_set ?_ GE429.out | refine below_set ?_ GE436.out) | exact HB.out))) : w.heap.size ≤ gb444)); have n9_ := Aside0.mk ((by rw [hg]; exact Nat.ne_of_lt (blk_lt (g := gb428) (o := .cells #[.int .i64 a0_0, .int .i64 a0_1, .slice A0_2 l0_2.length c0_2, .int .i64 a0_3] 26 (0, 0)) (by (with_reducible repeat (first | refine blk_drewN ?_ _ | refine blk_drew ?_ | refine blk_alloc ?_ _)); exact BK428.out)) : gb428 ≠ gb444)); have n10_ := Aside0.mk ((by rw [hg]; exact Nat.ne_of_gt (blk_lt (g := gb428) (o := .cells #[.int .i64 a0_0, .int .i64 a0_1, .slice A0_2 l0_2.length c0_2, .int .i64 a0_3] 26 (0, 0)) (by (with_reducible repeat (first | refine blk_drewN ?_ _ | refine blk_drew ?_ | refine blk_alloc ?_ _)); exact BK428.out)) : gb444 ≠ gb428)); have n11_ := Aside0.mk ((by rw [hg]; exact Nat.ne_of_lt (blk_lt (g := gb429) (o := .cells #[.int .i64 a1_0, .int .i64 a1_1, .string a1_2] 33 (0, 0)) (by (with_reducible repeat (first | refine blk_drewN ?_ _ | refine blk_drew ?_ | refine blk_alloc ?_ _)); exact BK429.out)) : gb429 ≠ gb444)); have n12_ := Aside0.mk ((by rw [hg]; exact Nat.ne_of_gt (blk_lt (g := gb429) (o := .cells #[.int .i64 a1_0, .int .i64 a1_1, .string a1_2] 33 (0, 0)) (by (with_reducible repeat (first | refine blk_drewN ?_ _ | refine blk_drew ?_ | refine blk_alloc ?_ _)); exact BK429.out)) : gb444 ≠ gb429)); have n13_ := Aside0.mk ((by rw [hg]; exact Nat.ne_of_lt (blk_lt (g := gb436) (o := .cells #[.int .i64 t430, .int .i64 t431, .slice Ao16 t432.length co16, .int .i64 t435] 26 (0, 0)) (by (with_reducible repeat (first | refine blk_drewN ?_ _ | refine blk_drew ?_ | refine blk_alloc ?_ _)); exact BK436.out)) : gb436 ≠ gb444)); have n14_ := Aside0.mk ((by rw [hg]; exact Nat.ne_of_gt (blk_lt (g := gb436) (o := .cells #[.int .i64 t430, .int .i64 t431, .slice Ao16 t432.length co16, .int .i64 t435] 26 (0, 0)) (by (with_reducible repeat (first | refine blk_drewN ?_ _ | refine blk_drew ?_ | refine blk_alloc ?_ _)); exact BK436.out)) : gb444 ≠ gb436)); clear HO434; clear HO441; clear BK428; clear BK429; clear BK436; clear HB; have HO434 := n0_; have HO441 := n1_; have BK428 := n2_; have BK429 := n3_; have BK436 := n4_; have HB := n5_; have BK444 := n6_; have GW444 := n7_; have GE444 := n8_; have NB428_444 := n9_; have NB444_428 := n10_; have NB429_444 := n11_; have NB444_429 := n12_; have NB436_444 := n13_; have NB444_436 := n14_; clear n0_ n1_ n2_ n3_ n4_ n5_ n6_ n7_ n8_ n9_ n10_ n11_ n12_ n13_ n14_; clear hb hbox hg; have hnb20 := NB444_428.out; have hnc20 := NB428_444.out; have hnb21 := NB444_429.out; have hnc21 := NB429_444.out; have hnb22 := NB444_436.out; have hnc22 := NB436_444.out; have hcz23_0 : w19.cell? ⟨gb444, 0, none⟩ = some (.int .i64 0) := (blk_cell BK444.out 0).trans rfl; have hcz23_1 : w19.cell? ⟨gb444, 1, none⟩ = some (.int .i64 0) := (blk_cell BK444.out 1).trans rfl; have hcz23_2 : w19.cell? ⟨gb444, 2, none⟩ = some (.slice none 0 0) := (blk_cell BK444.out 2).trans rfl; have hcz23_3 : w19.cell? ⟨gb444, 3, none⟩ = some (.int .i64 0) := (blk_cell BK444.out 3).trans rfl; have hfz23_0 := blk_frozen BK444.out 0; have hfz23_1 := blk_frozen BK444.out 1; have hfz23_2 := blk_frozen BK444.out 2; have hfz23_3 := blk_frozen BK444.out 3; obtain ⟨Ao24, co24, eo24⟩ := Kd.R_slice HO441.out; subst eo24; have hcz25_0 : w19.cell? ⟨gb428, 0, none⟩ = some (.int .i64 a0_0) := (blk_cell BK428.out 0).trans rfl; have hcz25_1 : w19.cell? ⟨gb428, 1, none⟩ = some (.int .i64 a0_1) := (blk_cell BK428.out 1).trans rfl; have hcz25_2 : w19.cell? ⟨gb428, 2, none⟩ = some (.slice A0_2 l0_2.length c0_2) := (blk_cell BK428.out 2).trans rfl; have hcz25_3 : w19.cell? ⟨gb428, 3, none⟩ = some (.int .i64 a0_3) := (blk_cell BK428.out 3).trans rfl; have hfz25_0 := blk_frozen BK428.out 0; have hfz25_1 := blk_frozen BK428.out 1; have hfz25_2 := blk_frozen BK428.out 2; have hfz25_3 := blk_frozen BK428.out 3; have hcz26_0 : w19.cell? ⟨gb429, 0, none⟩ = some (.int .i64 a1_0) := (blk_cell BK429.out 0).trans rfl; have hcz26_1 : w19.cell? ⟨gb429, 1, none⟩ = some (.int .i64 a1_1) := (blk_cell BK429.out 1).trans rfl; have hcz26_2 : w19.cell? ⟨gb429, 2, none⟩ = some (.string a1_2) := (blk_cell BK429.out 2).trans rfl; have hfz26_0 := blk_frozen BK429.out 0; have hfz26_1 := blk_frozen BK429.out 1; have hfz26_2 := blk_frozen BK429.out 2) | ((with_reducible refine gate_callee (f := 36) rfl ?_); refine goesL_ (some 21) rfl rfl Try.func36 (by kernel_rfl) rfl #[.agg #[.int .i64 a0_0, .int .i64 a0_1, .slice A0_2 l0_2.length c0_2, .int .i64 a0_3], .agg #[.int .i64 a1_0, .int .i64 a1_1, .string a1_2]] rfl (by (try simp only [List.map_toArray, List.map_cons, List.map_nil]); first | done | rfl | (simp only [List.length_drop, List.length_take]; rfl)) ?_; (with_reducible refine (rialtoref08_Add.calls k a0_0 a0_1 _ _ l0_2 a0_3 a1_0 a1_1 a1_2 t445 t446 t447 t450 t451 _ ?side1 ?side2 A5.out).mono ?_); (case side1 => exact Kd.C_below HR0_2.out (by repeat (first | (with_reducible first | exact HB.out | apply below_alloc | apply pw_below_drewN | apply below_drew1 | refine below_set ?_ GE428.out | refine below_set ?_ GE429.out | refine below_set ?_ GE436.out | refine below_set ?_ GE444.out) | exact HB.out))); (case side2 => exact HC0_2.out); rintro e w27 ⟨v448, rfl, ho0, hb⟩; refine ⟨_, rfl, ?_⟩; have n0_ := Aside0.mk (Kd.R_elder' (by (with_reducible repeat (first | apply Kd.R_alloc | apply Kd.R_drewN | apply Kd.R_drew)); exact (Kd.R_mono (Kd.R_far (p := ⟨gb444, 3, none⟩) (Kd.R_far (p := ⟨gb444, 2, none⟩) (Kd.R_far (p := ⟨gb444, 1, none⟩) (Kd.R_far (p := ⟨gb444, 0, none⟩) (Kd.R_types HO434.out BK444.out (by decide)) (fun _ hk => hk.2) (.int .i64 t437)) (fun _ hk => hk.2) (.int .i64 t438)) (fun _ hk => hk.2) (.slice Ao24 t439.length co24)) (fun _ hk => hk.2) (.int .i64 t442)) (fun _ h_ => h_.1))) (Kd.R_base ho0) hb); have n1_ := Aside0.mk (Kd.R_elder' (by (with_reducible repeat (first | apply Kd.R_alloc | apply Kd.R_drewN | apply Kd.R_drew)); exact (Kd.R_mono (Kd.R_far (p := ⟨gb444, 3, none⟩) (Kd.R_far (p := ⟨gb444, 2, none⟩) (Kd.R_far (p := ⟨gb444, 1, none⟩) (Kd.R_far (p := ⟨gb444, 0, none⟩) (Kd.R_types HO441.out BK444.out (by decide)) (fun _ hk => hk.2) (.int .i64 t437)) (fun _ hk => hk.2) (.int .i64 t438)) (fun _ hk => hk.2) (.slice Ao24 t439.length co24)) (fun _ hk => hk.2) (.int .i64 t442)) (fun _ h_ => h_.1))) (Kd.R_base ho0) hb); have n2_ := Aside0.mk (Kd.R_lower (Kd.R_newB (Kd.R_new' (Kd.R_new' ho0 (Kd.R_lt (by (with_reducible repeat (first | apply Kd.R_alloc | apply Kd.R_drewN | apply Kd.R_drew)); exact (Kd.R_mono (Kd.R_far (p := ⟨gb444, 3, none⟩) (Kd.R_far (p := ⟨gb444, 2, none⟩) (Kd.R_far (p := ⟨gb444, 1, none⟩) (Kd.R_far (p := ⟨gb444, 0, none⟩) (Kd.R_types HO434.out BK444.out (by decide)) (fun _ hk => hk.2) (.int .i64 t437)) (fun _ hk => hk.2) (.int .i64 t438)) (fun _ hk => hk.2) (.slice Ao24 t439.length co24)) (fun _ hk => hk.2) (.int .i64 t442)) (fun _ h_ => h_.1))))) (Kd.R_lt (by (with_reducible repeat (first | apply Kd.R_alloc | apply Kd.R_drewN | apply Kd.R_drew)); exact (Kd.R_mono (Kd.R_far (p := ⟨gb444, 3, none⟩) (Kd.R_far (p := ⟨gb444, 2, none⟩) (Kd.R_far (p := ⟨gb444, 1, none⟩) (Kd.R_far (p := ⟨gb444, 0, none⟩) (Kd.R_types HO441.out BK444.out (by decide)) (fun _ hk => hk.2) (.int .i64 t437)) (fun _ hk => hk.2) (.int .i64 t438)) (fun _ hk => hk.2) (.slice Ao24 t439.length co24)) (fun _ hk => hk.2) (.int .i64 t442)) (fun _ h_ => h_.1))))) (g := gb429) (o := .cells #[.int .i64 a1_0, .int .i64 a1_1, .string a1_2] 33 (0, 0)) (by (with_reducible repeat (first | refine blk_drewN ?_ _ | refine blk_drew ?_ | refine blk_alloc ?_ _)); refine blk_far ?_ NB429_444.out _; (with_reducible repeat (first | refine blk_drewN ?_ _ | refine blk_drew ?_ | refine blk_alloc ?_ _)); refine blk_far ?_ NB429_444.out _; (with_reducible repeat (first | refine blk_drewN ?_ _ | refine blk_drew ?_ | refine blk_alloc ?_ _)); refine blk_far ?_ NB429_444.out _; (with_reducible repeat (first | refine blk_drewN ?_ _ | refine blk_drew ?_ | refine blk_alloc ?_ _)); refine blk_far ?_ NB429_444.out _; (with_reducible repeat (first | refine blk_drewN ?_ _ | refine blk_drew ?_ | refine blk_alloc ?_ _)); exact BK429.out)) (below_size (by repeat (first | (with_reducible first | exact HB.out | apply below_alloc | apply pw_below_drewN | apply below_drew1 | refine below_set ?_ GE428.out | refine below_set ?_ GE429.out | refine below_set ?_ GE436.out | refine below_set ?_ GE444.out) | exact HB.out)))); have n3_ := Aside0.mk (blk_below (g := gb428) (o := .cells #[.int .i64 a0_0, .int .i64 a0_1, .slice A0_2 l0_2.length c0_2, .int .i64 a0_3] 26 (0, 0)) (by (with_reducible repeat (first | refine blk_drewN ?_ _ | refine blk_drew ?_ | refine blk_alloc ?_ _)); refine blk_far ?_ NB428_444.out _; (with_reducible repeat (first | refine blk_drewN ?_ _ | refine blk_drew ?_ | refine blk_alloc ?_ _)); refine blk_far ?_ NB428_444.out _; (with_reducible repeat (first | refine blk_drewN ?_ _ | refine blk_drew ?_ | refine blk_alloc ?_ _)); refine blk_far ?_ NB428_444.out _; (with_reducible repeat (first | refine blk_drewN ?_ _ | refine blk_drew ?_ | refine blk_alloc ?_ _)); refine blk_far ?_ NB428_444.out _; (with_reducible repeat (first | refine blk_drewN ?_ _ | refine blk_drew ?_ | refine blk_alloc ?_ _)); exact BK428.out) hb); have n4_ := Aside0.mk (blk_below (g := gb429) (o := .cells #[.int .i64 a1_0, .int .i64 a1_1, .string a1_2] 33 (0, 0)) (by (with_reducible repeat (first | refine blk_drewN ?_ _ | refine blk_drew ?_ | refine blk_alloc ?_ _)); refine blk_far ?_ NB429_444.out _; (with_reducible repeat (first | refine blk_drewN ?_ _ | refine blk_drew ?_ | refine blk_alloc ?_ _)); refine blk_far ?_ NB429_444.out _; (with_reducible repeat (first | refine blk_drewN ?_ _ | refine blk_drew ?_ | refine blk_alloc ?_ _)); refine blk_far ?_ NB429_444.out _; (with_reducible repeat (first | refine blk_drewN ?_ _ | refine blk_drew ?_ | refine blk_alloc ?_ _)); refine blk_far ?_ NB429_444.out _; (with_reducible repeat (first | refine blk_drewN ?_ _ | refine blk_drew ?_ | refine blk_alloc ?_ _)); exact BK429.out) hb); have n5_ := Aside0.mk (blk_below (g := gb436) (o := .cells #[.int .i64 t430, .int .i64 t431, .slice Ao16 t432.length co16, .int .i64 t435] 26 (0, 0)) (by (with_reducible repeat (first | refine blk_drewN ?_ _ | refine blk_drew ?_ | refine blk_alloc ?_ _)); refine blk_far ?_ NB436_444.out _; (with_reducible repeat (first | refine blk_drewN ?_ _ | refine blk_drew ?_ | refine blk_alloc ?_ _)); refine blk_far ?_ NB436_444.out _; (with_reducible repeat (first | refine blk_drewN ?_ _ | refine blk_drew ?_ | refine blk_alloc ?_ _)); refine blk_far ?_ NB436_444.out _; (with_reducible repeat (first | refine blk_drewN ?_ _ | refine blk_drew ?_ | refine blk_alloc ?_ _)); refine blk_far ?_ NB436_444.out _; (with_reducible repeat (first | refine blk_drewN ?_ _ | refine blk_drew ?_ | refine blk_alloc ?_ _)); exact BK436.out) hb); have n6_ := Aside0.mk (blk_below (g := gb444) (o := .cells #[.int .i64 t437, .int .i64 t438, .slice Ao24 t439.length co24, .int .i64 t442] 26 (0, 0)) (by (with_reducible repeat (first | refine blk_drewN ?_ _ | refine blk_drew ?_ | refine blk_alloc ?_ _)); refine blk_put (cs := #[.int .i64 t437, .int .i64 t438, .slice Ao24 t439.length co24, .int .i64 0]) ?_ 3 _ rfl; (with_reducible repeat (first | refine blk_drewN ?_ _ | refine blk_drew ?_ | refine blk_alloc ?_ _)); refine blk_put (cs := #[.int .i64 t437, .int .i64 t438, .slice none 0 0, .int .i64 0]) ?_ 2 _ rfl; (with_reducible repeat (first | refine blk_drewN ?_ _ | refine blk_drew ?_ | refine blk_alloc ?_ _)); refine blk_put (cs := #[.int .i64 t437, .int .i64 0, .slice none 0 0, .int .i64 0]) ?_ 1 _ rfl; (with_reducible repeat (first | refine blk_drewN ?_ _ | refine blk_drew ?_ | refine blk_alloc ?_ _)); refine blk_put (cs := #[.int .i64 0, .int .i64 0, .slice none 0 0, .int .i64 0]) ?_ 0 _ rfl; (with_reducible repeat (first | refine blk_drewN ?_ _ | refine blk_drew ?_ | refine blk_alloc ?_ _)); exact BK444.out) hb); have n7_ := Aside0.mk (below_step (by repeat (first | (with_reducible first | exact HB.out | apply below_alloc | apply pw_below_drewN | apply below_drew1 | refine below_set ?_ GE428.out | refine below_set ?_ GE429.out | refine below_set ?_ GE436.out | refine below_set ?_ GE444.out) | exact HB.out)) hb); clear HO434; clear HO441; clear BK428; clear BK429; clear BK436; clear BK444; clear HB; have HO434 := n0_; have HO441 := n1_; have HO449 := n2_; have BK428 := n3_; have BK429 := n4_; have BK436 := n5_; have BK444 := n6_; have HB := n7_; clear n0_ n1_ n2_ n3_ n4_ n5_ n6_ n7_; (try clear hb); (try clear hb2); (try clear hk); (try clear hi); (try clear ho0)) | ((with_reducible refine gate_dst (N := 8) rfl ?_); refine box_event ?hg (N := 8) ?hd (cs := #[.int .i64 0, .int .i64 0, .slice none 0 0, .int .i64 0]) (t := 26) ?hr ?_; (case hd => rfl); (case hg => rfl); (case hr => first | (go_simp; done) | (go_simp; rfl)); intro gb452 hg w28 hbox hb; have n0_ := Aside0.mk (Kd.R_below (by (with_reducible repeat (first | apply Kd.R_alloc | apply Kd.R_drewN | apply Kd.R_drew)); exact HO434.out) hb); have n1_ := Aside0.mk (Kd.R_below (by (with_reducible repeat (first | apply Kd.R_alloc | apply Kd.R_drewN | apply Kd.R_drew)); exact HO441.out) hb); have n2_ := Aside0.mk (Kd.R_below (by (with_reducible repeat (first | apply Kd.R_alloc | apply Kd.R_drewN | apply Kd.R_drew)); exact HO449.out) hb); have n3_ := Aside0.mk (blk_below (g := gb428) (o := .cells #[.int .i64 a0_0, .int .i64 a0_1, .slice A0_2 l0_2.length c0_2, .int .i64 a0_3] 26 (0, 0)) (by (with_reducible repeat (first | refine blk_drewN ?_ _ | refine blk_drew ?_ | refine blk_alloc ?_ _)); exact BK428.out) hb); have n4_ := Aside0.mk (blk_below (g := gb429) (o := .cells #[.int .i64 a1_0, .int .i64 a1_1, .string a1_2] 33 (0, 0)) (by (with_reducible repeat (first | refine blk_drewN ?_ _ | refine blk_drew ?_ | refine blk_alloc ?_ _)); exact BK429.out) hb); have n5_ := Aside0.mk (blk_below (g := gb436) (o := .cells #[.int .i64 t430, .int .i64 t431, .slice Ao16 t432.length co16, .int .i64 t435] 26 (0, 0)) (by (with_reducible repeat (first | refine blk_drewN ?_ _ | refine blk_drew ?_ | refine blk_alloc ?_ _)); exact BK436.out) hb); have n6_ := Aside0.mk (blk_below (g := gb444) (o := .cells #[.int .i64 t437, .int .i64 t438, .slice Ao24 t439.length co24, .int .i64 t442] 26 (0, 0)) (by (with_reducible repeat (first | refine blk_drewN ?_ _ | refine blk_drew ?_ | refine blk_alloc ?_ _)); exact BK444.out) hb); have n7_ := Aside0.mk (below_step (by repeat (first | (with_reducible first | exact HB.out | apply below_alloc | apply pw_below_drewN | apply below_drew1 | refine below_set ?_ GE428.out | refine below_set ?_ GE429.out | refine below_set ?_ GE436.out | refine below_set ?_ GE444.out) | exact HB.out)) hb); have n8_ := Aside0.mk (hbox); have n9_ := Aside0.mk ((by rw [hg]; exact (below_size (by repeat (first | (with_reducible first | exact HB.out | apply below_alloc | apply pw_below_drewN | apply below_drew1 | refine below_set ?_ GE428.out | refine below_set ?_ GE429.out | refine below_set ?_ GE436.out | refine below_set ?_ GE444.out) | exact HB.out))) : w.heap.size ≤ gb452)); have n10_ := Aside0.mk ((by rw [hg]; exact (below_size (by repeat (first | (with_reducible first | exact HB.out | apply below_alloc | apply pw_below_drewN | apply below_drew1 | refine below_set ?_ GE428.out | refine below_set ?_ GE429.out | refine below_set ?_ GE436.out | refine below_set ?_ GE444.out) | exact HB.out))) : w.heap.size ≤ gb452)); have n11_ := Aside0.mk ((by rw [hg]; exact Nat.ne_of_lt (blk_lt (g := gb428) (o := .cells #[.int .i64 a0_0, .int .i64 a0_1, .slice A0_2 l0_2.length c0_2, .int .i64 a0_3] 26 (0, 0)) (by (with_reducible repeat (first | refine blk_drewN ?_ _ | refine blk_drew ?_ | refine blk_alloc ?_ _)); exact BK428.out)) : gb428 ≠ gb452)); have n12_ := Aside0.mk ((by rw [hg]; exact Nat.ne_of_gt (blk_lt (g := gb428) (o := .cells #[.int .i64 a0_0, .int .i64 a0_1, .slice A0_2 l0_2.length c0_2, .int .i64 a0_3] 26 (0, 0)) (by (with_reducible repeat (first | refine blk_drewN ?_ _ | refine blk_drew ?_ | refine blk_alloc ?_ _)); exact BK428.out)) : gb452 ≠ gb428)); have n13_ := Aside0.mk ((by rw [hg]; exact Nat.ne_of_lt (blk_lt (g := gb429) (o := .cells #[.int .i64 a1_0, .int .i64 a1_1, .string a1_2] 33 (0, 0)) (by (with_reducible repeat (first | refine blk_drewN ?_ _ | refine blk_drew ?_ | refine blk_alloc ?_ _)); exact BK429.out)) : gb429 ≠ gb452)); have n14_ := Aside0.mk ((by rw [hg]; exact Nat.ne_of_gt (blk_lt (g := gb429) (o := .cells #[.int .i64 a1_0, .int .i64 a1_1, .string a1_2] 33 (0, 0)) (by (with_reducible repeat (first | refine blk_drewN ?_ _ | refine blk_drew ?_ | refine blk_alloc ?_ _)); exact BK429.out)) : gb452 ≠ gb429)); have n15_ := Aside0.mk ((by rw [hg]; exact Nat.ne_of_lt (blk_lt (g := gb436) (o := .cells #[.int .i64 t430, .int .i64 t431, .slice Ao16 t432.length co16, .int .i64 t435] 26 (0, 0)) (by (with_reducible repeat (first | refine blk_drewN ?_ _ | refine blk_drew ?_ | refine blk_alloc ?_ _)); exact BK436.out)) : gb436 ≠ gb452)); have n16_ := Aside0.mk ((by rw [hg]; exact Nat.ne_of_gt (blk_lt (g := gb436) (o := .cells #[.int .i64 t430, .int .i64 t431, .slice Ao16 t432.length co16, .int .i64 t435] 26 (0, 0)) (by (with_reducible repeat (first | refine blk_drewN ?_ _ | refine blk_drew ?_ | refine blk_alloc ?_ _)); exact BK436.out)) : gb452 ≠ gb436)); have n17_ := Aside0.mk ((by rw [hg]; exact Nat.ne_of_lt (blk_lt (g := gb444) (o := .cells #[.int .i64 t437, .int .i64 t438, .slice Ao24 t439.length co24, .int .i64 t442] 26 (0, 0)) (by (with_reducible repeat (first | refine blk_drewN ?_ _ | refine blk_drew ?_ | refine blk_alloc ?_ _)); exact BK444.out)) : gb444 ≠ gb452)); have n18_ := Aside0.mk ((by rw [hg]; exact Nat.ne_of_gt (blk_lt (g := gb444) (o := .cells #[.int .i64 t437, .int .i64 t438, .slice Ao24 t439.length co24, .int .i64 t442] 26 (0, 0)) (by (with_reducible repeat (first | refine blk_drewN ?_ _ | refine blk_drew ?_ | refine blk_alloc ?_ _)); exact BK444.out)) : gb452 ≠ gb444)); clear HO434; clear HO441; clear HO449; clear BK428; clear BK429; clear BK436; clear BK444; clear HB; have HO434 := n0_; have HO441 := n1_; have HO449 := n2_; have BK428 := n3_; have BK429 := n4_; have BK436 := n5_; have BK444 := n6_; have HB := n7_; have BK452 := n8_; have GW452 := n9_; have GE452 := n10_; have NB428_452 := n11_; have NB452_428 := n12_; have NB429_452 := n13_; have NB452_429 := n14_; have NB436_452 := n15_; have NB452_436 := n16_; have NB444_452 := n17_; have NB452_444 := n18_; clear n0_ n1_ n2_ n3_ n4_ n5_ n6_ n7_ n8_ n9_ n10_ n11_ n12_ n13_ n14_ n15_ n16_ n17_ n18_; clear hb hbox hg; have hnb29 := NB452_428.out; have hnc29 := NB428_452.out; have hnb30 := NB452_429.out; have hnc30 := NB429_452.out; have hnb31 := NB452_436.out; have hnc31 := NB436_452.out; have hnb32 := NB452_444.out; have hnc32 := NB444_452.out; have hcz33_0 : w28.cell? ⟨gb452, 0, none⟩ = some (.int .i64 0) := (blk_cell BK452.out 0).trans rfl; have hcz33_1 : w28.cell? ⟨gb452, 1, none⟩ = some (.int .i64 0) := (blk_cell BK452.out 1).trans rfl; have hcz33_2 : w28.cell? ⟨gb452, 2, none⟩ = some (.slice none 0 0) := (blk_cell BK452.out 2).trans rfl; have hcz33_3 : w28.cell? ⟨gb452, 3, none⟩ = some (.int .i64 0) := (blk_cell BK452.out 3).trans rfl; have hfz33_0 := blk_frozen BK452.out 0; have hfz33_1 := blk_frozen BK452.out 1; have hfz33_2 := blk_frozen BK452.out 2; have hfz33_3 := blk_frozen BK452.out 3; obtain ⟨Ao34, co34, eo34⟩ := Kd.R_slice HO449.out; subst eo34))
  (try simp only [Act.put, List.setIfInBounds_toArray, List.set_cons_zero, List.set_cons_succ])
  go_cut [38] (fun v38 wc => ∃ (kq : Nat) (x38_5 : Bool), v38 = .bool x38_5 ∧ Aside0 (rialtolaw08_EntriesAdd.j0 kq x38_5 a0_0 a0_1 l0_2 a0_3 t430 t431 t432 t435 t437 t438 t439 t442 = some r) ∧ Aside0 (kq ≤ k) ∧ Aside0 (Kd.R k33 33 wc w.heap.size (fun k_ => some k_ ≠ ((.slice Ao24 t439.length co24) : Value).ownBlock ∧ some k_ ≠ ((.slice Ao34 t447.length co34) : Value).ownBlock ∧ k_ ≠ gb429) (.slice Ao16 t432.length co16) t432) ∧ Aside0 (Kd.R k33 33 wc w.heap.size (fun k_ => some k_ ≠ ((.slice Ao16 t432.length co16) : Value).ownBlock ∧ some k_ ≠ ((.slice Ao34 t447.length co34) : Value).ownBlock ∧ k_ ≠ gb429) (.slice Ao24 t439.length co24) t439) ∧ Aside0 (Kd.R k33 33 wc w.heap.size (fun k_ => some k_ ≠ ((.slice Ao16 t432.length co16) : Value).ownBlock ∧ some k_ ≠ ((.slice Ao24 t439.length co24) : Value).ownBlock ∧ k_ ≠ gb429) (.slice Ao34 t447.length co34) t447) ∧ Aside0 (wc.heap[gb428]? = some (.cells #[.int .i64 a0_0, .int .i64 a0_1, (.slice A0_2 l0_2.length c0_2), .int .i64 a0_3] 26 (0, 0))) ∧ Aside0 (wc.heap[gb429]? = some (.cells #[.int .i64 a1_0, .int .i64 a1_1, .string a1_2] 33 (0, 0))) ∧ Aside0 (wc.heap[gb436]? = some (.cells #[.int .i64 t430, .int .i64 t431, (.slice Ao16 t432.length co16), .int .i64 t435] 26 (0, 0))) ∧ Aside0 (wc.heap[gb444]? = some (.cells #[.int .i64 t437, .int .i64 t438, (.slice Ao24 t439.length co24), .int .i64 t442] 26 (0, 0))) ∧ Aside0 (wc.heap[gb452]? = some (.cells #[.int .i64 t445, .int .i64 t446, (.slice Ao34 t447.length co34), .int .i64 t450] 26 (0, 0))) ∧ Aside0 (Below w.heap.size w wc))
  case first =>
    have H := HC6.out
    clear HC6
    replace H := Option.bind_eq_some_iff.mp H
    obtain ⟨t453, A350, H⟩ := H
    replace H : (if t453 = true then (if t443 = t451 then ((rialtoref08_Same.f k t430 t431 t432 t435 a0_0 a0_1 l0_2 a0_3).bind fun t454 => (rialtolaw08_EntriesAdd.j0 k (!t454) a0_0 a0_1 l0_2 a0_3 t430 t431 t432 t435 t437 t438 t439 t442)) else (rialtolaw08_EntriesAdd.j0 k true a0_0 a0_1 l0_2 a0_3 t430 t431 t432 t435 t437 t438 t439 t442)) else (rialtolaw08_EntriesAdd.j0 k true a0_0 a0_1 l0_2 a0_3 t430 t431 t432 t435 t437 t438 t439 t442)) = some r := H
    have A35 := Aside0.mk A350
    clear A350
    by_cases c36 : t453 = true
    focus
      subst c36
      have H1 : (if t443 = t451 then ((rialtoref08_Same.f k t430 t431 t432 t435 a0_0 a0_1 l0_2 a0_3).bind fun t454 => (rialtolaw08_EntriesAdd.j0 k (!t454) a0_0 a0_1 l0_2 a0_3 t430 t431 t432 t435 t437 t438 t439 t442)) else (rialtolaw08_EntriesAdd.j0 k true a0_0 a0_1 l0_2 a0_3 t430 t431 t432 t435 t437 t438 t439 t442)) = some r := by rw [if_pos rfl] at H; exact H
      clear H
      have H := H1
      clear H1
      by_cases c37 : t443 = t451
      focus
        rw [if_pos c37] at H
        have c37b0 : (t443 == t451) = true := beq_iff_eq.mpr c37
        have c37b1 : (t443 != t451) = false := bne_eq_false_iff_eq.mpr c37
        clear c37
        (first | rw [c37b0] | (simp only [i64_w, i32_w]; rw [c37b0]) | skip)
        replace H := Option.bind_eq_some_iff.mp H
        obtain ⟨t454, A380, H⟩ := H
        replace H : (rialtolaw08_EntriesAdd.j0 k (!t454) a0_0 a0_1 l0_2 a0_3 t430 t431 t432 t435 t437 t438 t439 t442) = some r := H
        have A38 := Aside0.mk A380
        clear A380
        have H' := Aside0.mk H
        clear H
      rotate_left 1
      focus
        rw [if_neg c37] at H
        have c37b0 : (t443 == t451) = false := beq_eq_false_iff_ne.mpr c37
        have c37b1 : (t443 != t451) = true := bne_iff_ne.mpr c37
        (first | rw [c37b0] | (simp only [i64_w, i32_w]; rw [c37b0]) | skip)
        have H' := Aside0.mk H
        clear H
      rotate_left 1
    rotate_left 2
    focus
      replace c36 := Bool.eq_false_iff.mpr c36
      subst c36
      have H1 : (rialtolaw08_EntriesAdd.j0 k true a0_0 a0_1 l0_2 a0_3 t430 t431 t432 t435 t437 t438 t439 t442) = some r := by rw [if_neg (show ¬ (false = true) by decide)] at H; exact H
      clear H
      have H := H1
      clear H1
      have H' := Aside0.mk H
      clear H
    rotate_left 1
    all_goals
      have hnbyb444_428 := NB444_428.out
      have hncyb428_444 := NB428_444.out
      have hnbyb444_429 := NB444_429.out
      have hncyb429_444 := NB429_444.out
      have hnbyb444_436 := NB444_436.out
      have hncyb436_444 := NB436_444.out
      have hnbyb444_452 := NB444_452.out
      have hncyb452_444 := NB452_444.out
      have hczyb444_0 : w28.cell? ⟨gb444, 0, none⟩ = some (.int .i64 t437) := (blk_cell BK444.out 0).trans rfl
      have hczyb444_1 : w28.cell? ⟨gb444, 1, none⟩ = some (.int .i64 t438) := (blk_cell BK444.out 1).trans rfl
      have hczyb444_2 : w28.cell? ⟨gb444, 2, none⟩ = some (.slice Ao24 t439.length co24) := (blk_cell BK444.out 2).trans rfl
      have hczyb444_3 : w28.cell? ⟨gb444, 3, none⟩ = some (.int .i64 t442) := (blk_cell BK444.out 3).trans rfl
      have hfzyb444_0 := blk_frozen BK444.out 0
      have hfzyb444_1 := blk_frozen BK444.out 1
      have hfzyb444_2 := blk_frozen BK444.out 2
      have hfzyb444_3 := blk_frozen BK444.out 3
      have hnbyb452_428 := NB452_428.out
      have hncyb428_452 := NB428_452.out
      have hnbyb452_429 := NB452_429.out
      have hncyb429_452 := NB429_452.out
      have hnbyb452_436 := NB452_436.out
      have hncyb436_452 := NB436_452.out
      have hczyb452_0 : w28.cell? ⟨gb452, 0, none⟩ = some (.int .i64 0) := (blk_cell BK452.out 0).trans rfl
      have hczyb452_1 : w28.cell? ⟨gb452, 1, none⟩ = some (.int .i64 0) := (blk_cell BK452.out 1).trans rfl
      have hczyb452_2 : w28.cell? ⟨gb452, 2, none⟩ = some (.slice none 0 0) := (blk_cell BK452.out 2).trans rfl
      have hczyb452_3 : w28.cell? ⟨gb452, 3, none⟩ = some (.int .i64 0) := (blk_cell BK452.out 3).trans rfl
      have hfzyb452_0 := blk_frozen BK452.out 0
      have hfzyb452_1 := blk_frozen BK452.out 1
      have hfzyb452_2 := blk_frozen BK452.out 2
      have hfzyb452_3 := blk_frozen BK452.out 3
      go_wp2_with (first | ((with_reducible refine gate_callee (f := 16) rfl ?_); refine goesL_ (some 26) rfl rfl Try.func16 (by kernel_rfl) rfl #[.agg #[.int .i64 t437, .int .i64 t438, .slice Ao24 t439.length co24, .int .i64 t442], .agg #[.int .i64 t445, .int .i64 t446, .slice Ao34 t447.length co34, .int .i64 t450]] rfl (by (try simp only [List.map_toArray, List.map_cons, List.map_nil]); first | done | rfl | (simp only [List.length_drop, List.length_take]; rfl)) ?_; (with_reducible refine (rialtoref08_Same.calls k t437 t438 _ _ t439 t442 t445 t446 _ _ t447 t450 _ _ ?side1 ?side2 ?side3 ?side4 A35.out).mono ?_); (case side1 => refine (Kd.R_reads' (e := 33) (base := w.heap.size) (ok := fun k_ => (((True ∧ some k_ ≠ (.slice Ao16 t432.length co16 : Value).ownBlock) ∧ k_ ≠ gb429) ∧ some k_ ≠ (.slice Ao34 t447.length co34 : Value).ownBlock)) (n := t439.length) (c := co24) ?_).2.2; exact (by (with_reducible repeat (first | apply Kd.R_alloc | apply Kd.R_drewN | apply Kd.R_drew)); exact (Kd.R_mono (Kd.R_far (p := ⟨gb452, 3, none⟩) (Kd.R_far (p := ⟨gb452, 2, none⟩) (Kd.R_far (p := ⟨gb452, 1, none⟩) (Kd.R_far (p := ⟨gb452, 0, none⟩) (Kd.R_types HO441.out BK452.out (by decide)) (fun _ hk => hk.2) (.int .i64 t445)) (fun _ hk => hk.2) (.int .i64 t446)) (fun _ hk => hk.2) (.slice Ao34 t447.length co34)) (fun _ hk => hk.2) (.int .i64 t450)) (fun _ h_ => h_.1)))); (case side2 => exact (Kd.R_reads' HO441.out).2.1); (case side3 => refine (Kd.R_reads' (e := 33) (base := w.heap.size) (ok := fun k_ => (((True ∧ some k_ ≠ (.slice Ao16 t432.length co16 : Value).ownBlock) ∧ some k_ ≠ (.slice Ao24 t439.length co24 : Value).ownBlock) ∧ k_ ≠ gb429)) (n := t447.length) (c := co34) ?_).2.2; exact (by (with_reducible repeat (first | apply Kd.R_alloc | apply Kd.R_drewN | apply Kd.R_drew)); exact (Kd.R_mono (Kd.R_far (p := ⟨gb452, 3, none⟩) (Kd.R_far (p := ⟨gb452, 2, none⟩) (Kd.R_far (p := ⟨gb452, 1, none⟩) (Kd.R_far (p := ⟨gb452, 0, none⟩) (Kd.R_types HO449.out BK452.out (by decide)) (fun _ hk => hk.2) (.int .i64 t445)) (fun _ hk => hk.2) (.int .i64 t446)) (fun _ hk => hk.2) (.slice Ao34 t447.length co34)) (fun _ hk => hk.2) (.int .i64 t450)) (fun _ h_ => h_.1)))); (case side4 => exact (Kd.R_reads' HO449.out).2.1); rintro e wx26i0 ⟨rfl, hb⟩; refine ⟨_, rfl, ?_⟩; have n0_ := Aside0.mk (Kd.R_below (by (with_reducible repeat (first | apply Kd.R_alloc | apply Kd.R_drewN | apply Kd.R_drew)); exact (Kd.R_mono (Kd.R_far (p := ⟨gb452, 3, none⟩) (Kd.R_far (p := ⟨gb452, 2, none⟩) (Kd.R_far (p := ⟨gb452, 1, none⟩) (Kd.R_far (p := ⟨gb452, 0, none⟩) (Kd.R_types HO434.out BK452.out (by decide)) (fun _ hk => hk.2) (.int .i64 t445)) (fun _ hk => hk.2) (.int .i64 t446)) (fun _ hk => hk.2) (.slice Ao34 t447.length co34)) (fun _ hk => hk.2) (.int .i64 t450)) (fun _ h_ => h_.1))) hb); have n1_ := Aside0.mk (Kd.R_below (by (with_reducible repeat (first | apply Kd.R_alloc | apply Kd.R_drewN | apply Kd.R_drew)); exact (Kd.R_mono (Kd.R_far (p := ⟨gb452, 3, none⟩) (Kd.R_far (p := ⟨gb452, 2, none⟩) (Kd.R_far (p := ⟨gb452, 1, none⟩) (Kd.R_far (p := ⟨gb452, 0, none⟩) (Kd.R_types HO441.out BK452.out (by decide)) (fun _ hk => hk.2) (.int .i64 t445)) (fun _ hk => hk.2) (.int .i64 t446)) (fun _ hk => hk.2) (.slice Ao34 t447.length co34)) (fun _ hk => hk.2) (.int .i64 t450)) (fun _ h_ => h_.1))) hb); have n2_ := Aside0.mk (Kd.R_below (by (with_reducible repeat (first | apply Kd.R_alloc | apply Kd.R_drewN | apply Kd.R_drew)); exact (Kd.R_mono (Kd.R_far (p := ⟨gb452, 3, none⟩) (Kd.R_far (p := ⟨gb452, 2, none⟩) (Kd.R_far (p := ⟨gb452, 1, none⟩) (Kd.R_far (p := ⟨gb452, 0, none⟩) (Kd.R_types HO449.out BK452.out (by decide)) (fun _ hk => hk.2) (.int .i64 t445)) (fun _ hk => hk.2) (.int .i64 t446)) (fun _ hk => hk.2) (.slice Ao34 t447.length co34)) (fun _ hk => hk.2) (.int .i64 t450)) (fun _ h_ => h_.1))) hb); have n3_ := Aside0.mk (blk_below (g := gb428) (o := .cells #[.int .i64 a0_0, .int .i64 a0_1, .slice A0_2 l0_2.length c0_2, .int .i64 a0_3] 26 (0, 0)) (by (with_reducible repeat (first | refine blk_drewN ?_ _ | refine blk_drew ?_ | refine blk_alloc ?_ _)); refine blk_far ?_ NB428_452.out _; (with_reducible repeat (first | refine blk_drewN ?_ _ | refine blk_drew ?_ | refine blk_alloc ?_ _)); refine blk_far ?_ NB428_452.out _; (with_reducible repeat (first | refine blk_drewN ?_ _ | refine blk_drew ?_ | refine blk_alloc ?_ _)); refine blk_far ?_ NB428_452.out _; (with_reducible repeat (first | refine blk_drewN ?_ _ | refine blk_drew ?_ | refine blk_alloc ?_ _)); refine blk_far ?_ NB428_452.out _; (with_reducible repeat (first | refine blk_drewN ?_ _ | refine blk_drew ?_ | refine blk_alloc ?_ _)); exact BK428.out) hb); have n4_ := Aside0.mk (blk_below (g := gb429) (o := .cells #[.int .i64 a1_0, .int .i64 a1_1, .string a1_2] 33 (0, 0)) (by (with_reducible repeat (first | refine blk_drewN ?_ _ | refine blk_drew ?_ | refine blk_alloc ?_ _)); refine blk_far ?_ NB429_452.out _; (with_reducible repeat (first | refine blk_drewN ?_ _ | refine blk_drew ?_ | refine blk_alloc ?_ _)); refine blk_far ?_ NB429_452.out _; (with_reducible repeat (first | refine blk_drewN ?_ _ | refine blk_drew ?_ | refine blk_alloc ?_ _)); refine blk_far ?_ NB429_452.out _; (with_reducible repeat (first | refine blk_drewN ?_ _ | refine blk_drew ?_ | refine blk_alloc ?_ _)); refine blk_far ?_ NB429_452.out _; (with_reducible repeat (first | refine blk_drewN ?_ _ | refine blk_drew ?_ | refine blk_alloc ?_ _)); exact BK429.out) hb); have n5_ := Aside0.mk (blk_below (g := gb436) (o := .cells #[.int .i64 t430, .int .i64 t431, .slice Ao16 t432.length co16, .int .i64 t435] 26 (0, 0)) (by (with_reducible repeat (first | refine blk_drewN ?_ _ | refine blk_drew ?_ | refine blk_alloc ?_ _)); refine blk_far ?_ NB436_452.out _; (with_reducible repeat (first | refine blk_drewN ?_ _ | refine blk_drew ?_ | refine blk_alloc ?_ _)); refine blk_far ?_ NB436_452.out _; (with_reducible repeat (first | refine blk_drewN ?_ _ | refine blk_drew ?_ | refine blk_alloc ?_ _)); refine blk_far ?_ NB436_452.out _; (with_reducible repeat (first | refine blk_drewN ?_ _ | refine blk_drew ?_ | refine blk_alloc ?_ _)); refine blk_far ?_ NB436_452.out _; (with_reducible repeat (first | refine blk_drewN ?_ _ | refine blk_drew ?_ | refine blk_alloc ?_ _)); exact BK436.out) hb); have n6_ := Aside0.mk (blk_below (g := gb444) (o := .cells #[.int .i64 t437, .int .i64 t438, .slice Ao24 t439.length co24, .int .i64 t442] 26 (0, 0)) (by (with_reducible repeat (first | refine blk_drewN ?_ _ | refine blk_drew ?_ | refine blk_alloc ?_ _)); refine blk_far ?_ NB444_452.out _; (with_reducible repeat (first | refine blk_drewN ?_ _ | refine blk_drew ?_ | refine blk_alloc ?_ _)); refine blk_far ?_ NB444_452.out _; (with_reducible repeat (first | refine blk_drewN ?_ _ | refine blk_drew ?_ | refine blk_alloc ?_ _)); refine blk_far ?_ NB444_452.out _; (with_reducible repeat (first | refine blk_drewN ?_ _ | refine blk_drew ?_ | refine blk_alloc ?_ _)); refine blk_far ?_ NB444_452.out _; (with_reducible repeat (first | refine blk_drewN ?_ _ | refine blk_drew ?_ | refine blk_alloc ?_ _)); exact BK444.out) hb); have n7_ := Aside0.mk (blk_below (g := gb452) (o := .cells #[.int .i64 t445, .int .i64 t446, .slice Ao34 t447.length co34, .int .i64 t450] 26 (0, 0)) (by (with_reducible repeat (first | refine blk_drewN ?_ _ | refine blk_drew ?_ | refine blk_alloc ?_ _)); refine blk_put (cs := #[.int .i64 t445, .int .i64 t446, .slice Ao34 t447.length co34, .int .i64 0]) ?_ 3 _ rfl; (with_reducible repeat (first | refine blk_drewN ?_ _ | refine blk_drew ?_ | refine blk_alloc ?_ _)); refine blk_put (cs := #[.int .i64 t445, .int .i64 t446, .slice none 0 0, .int .i64 0]) ?_ 2 _ rfl; (with_reducible repeat (first | refine blk_drewN ?_ _ | refine blk_drew ?_ | refine blk_alloc ?_ _)); refine blk_put (cs := #[.int .i64 t445, .int .i64 0, .slice none 0 0, .int .i64 0]) ?_ 1 _ rfl; (with_reducible repeat (first | refine blk_drewN ?_ _ | refine blk_drew ?_ | refine blk_alloc ?_ _)); refine blk_put (cs := #[.int .i64 0, .int .i64 0, .slice none 0 0, .int .i64 0]) ?_ 0 _ rfl; (with_reducible repeat (first | refine blk_drewN ?_ _ | refine blk_drew ?_ | refine blk_alloc ?_ _)); exact BK452.out) hb); have n8_ := Aside0.mk (below_step (by repeat (first | (with_reducible first | exact HB.out | apply below_alloc | apply pw_below_drewN | apply below_drew1 | refine below_set ?_ GE428.out | refine below_set ?_ GE429.out | refine below_set ?_ GE436.out | refine below_set ?_ GE444.out | refine below_set ?_ GE452.out) | exact HB.out)) hb); clear HO434; clear HO441; clear HO449; clear BK428; clear BK429; clear BK436; clear BK444; clear BK452; clear HB; have HO434 := n0_; have HO441 := n1_; have HO449 := n2_; have BK428 := n3_; have BK429 := n4_; have BK436 := n5_; have BK444 := n6_; have BK452 := n7_; have HB := n8_; clear n0_ n1_ n2_ n3_ n4_ n5_ n6_ n7_ n8_; (try clear hb); (try clear hb2); (try clear hk); (try clear hi); (try have hnbx26b436_428 := NB436_428.out); (try have hncx26b428_436 := NB428_436.out); (try have hnbx26b436_429 := NB436_429.out); (try have hncx26b429_436 := NB429_436.out); (try have hczx26b436_0 : wx26i0.cell? ⟨gb436, 0, none⟩ = some (.int .i64 t430) := (blk_cell BK436.out 0).trans rfl); (try have hczx26b436_1 : wx26i0.cell? ⟨gb436, 1, none⟩ = some (.int .i64 t431) := (blk_cell BK436.out 1).trans rfl); (try have hczx26b436_2 : wx26i0.cell? ⟨gb436, 2, none⟩ = some (.slice Ao16 t432.length co16) := (blk_cell BK436.out 2).trans rfl); (try have hczx26b436_3 : wx26i0.cell? ⟨gb436, 3, none⟩ = some (.int .i64 t435) := (blk_cell BK436.out 3).trans rfl); (try have hfzx26b436_0 := blk_frozen BK436.out 0); (try have hfzx26b436_1 := blk_frozen BK436.out 1); (try have hfzx26b436_2 := blk_frozen BK436.out 2); (try have hfzx26b436_3 := blk_frozen BK436.out 3); (try have hnbx26b428_429 := NB428_429.out); (try have hncx26b429_428 := NB429_428.out); (try have hczx26b428_0 : wx26i0.cell? ⟨gb428, 0, none⟩ = some (.int .i64 a0_0) := (blk_cell BK428.out 0).trans rfl); (try have hczx26b428_1 : wx26i0.cell? ⟨gb428, 1, none⟩ = some (.int .i64 a0_1) := (blk_cell BK428.out 1).trans rfl); (try have hczx26b428_2 : wx26i0.cell? ⟨gb428, 2, none⟩ = some (.slice A0_2 l0_2.length c0_2) := (blk_cell BK428.out 2).trans rfl); (try have hczx26b428_3 : wx26i0.cell? ⟨gb428, 3, none⟩ = some (.int .i64 a0_3) := (blk_cell BK428.out 3).trans rfl); (try have hfzx26b428_0 := blk_frozen BK428.out 0); (try have hfzx26b428_1 := blk_frozen BK428.out 1); (try have hfzx26b428_2 := blk_frozen BK428.out 2); (try have hfzx26b428_3 := blk_frozen BK428.out 3)) | (go_at_call 16; (with_reducible refine (rialtoref08_Same.calls k t430 t431 _ _ t432 t435 a0_0 a0_1 _ _ l0_2 a0_3 t454 _ ?side1 ?side2 ?side3 ?side4 A38.out).mono ?_); (case side1 => repeat (first | exact (Kd.R_reads' HO434.out).2.2 | (with_reducible refine Kd.C_alloc ?_ _) | (with_reducible refine Kd.C_drewN ?_ _) | (with_reducible refine Kd.C_drew ?_))); (case side2 => exact (Kd.R_reads' HO434.out).2.1); (case side3 => repeat (first | exact (Kd.C_below HR0_2.out HB.out) | (with_reducible refine Kd.C_alloc ?_ _) | (with_reducible refine Kd.C_drewN ?_ _) | (with_reducible refine Kd.C_drew ?_))); (case side4 => exact HC0_2.out); rintro e wyi0 ⟨rfl, hb⟩; have n0_ := Aside0.mk (Kd.R_below (by (with_reducible repeat (first | apply Kd.R_alloc | apply Kd.R_drewN | apply Kd.R_drew)); exact HO434.out) hb); have n1_ := Aside0.mk (Kd.R_below (by (with_reducible repeat (first | apply Kd.R_alloc | apply Kd.R_drewN | apply Kd.R_drew)); exact HO441.out) hb); have n2_ := Aside0.mk (Kd.R_below (by (with_reducible repeat (first | apply Kd.R_alloc | apply Kd.R_drewN | apply Kd.R_drew)); exact HO449.out) hb); have n3_ := Aside0.mk (blk_below (g := gb428) (o := .cells #[.int .i64 a0_0, .int .i64 a0_1, .slice A0_2 l0_2.length c0_2, .int .i64 a0_3] 26 (0, 0)) (by (with_reducible repeat (first | refine blk_drewN ?_ _ | refine blk_drew ?_ | refine blk_alloc ?_ _)); exact BK428.out) hb); have n4_ := Aside0.mk (blk_below (g := gb429) (o := .cells #[.int .i64 a1_0, .int .i64 a1_1, .string a1_2] 33 (0, 0)) (by (with_reducible repeat (first | refine blk_drewN ?_ _ | refine blk_drew ?_ | refine blk_alloc ?_ _)); exact BK429.out) hb); have n5_ := Aside0.mk (blk_below (g := gb436) (o := .cells #[.int .i64 t430, .int .i64 t431, .slice Ao16 t432.length co16, .int .i64 t435] 26 (0, 0)) (by (with_reducible repeat (first | refine blk_drewN ?_ _ | refine blk_drew ?_ | refine blk_alloc ?_ _)); exact BK436.out) hb); have n6_ := Aside0.mk (blk_below (g := gb444) (o := .cells #[.int .i64 t437, .int .i64 t438, .slice Ao24 t439.length co24, .int .i64 t442] 26 (0, 0)) (by (with_reducible repeat (first | refine blk_drewN ?_ _ | refine blk_drew ?_ | refine blk_alloc ?_ _)); exact BK444.out) hb); have n7_ := Aside0.mk (blk_below (g := gb452) (o := .cells #[.int .i64 t445, .int .i64 t446, .slice Ao34 t447.length co34, .int .i64 t450] 26 (0, 0)) (by (with_reducible repeat (first | refine blk_drewN ?_ _ | refine blk_drew ?_ | refine blk_alloc ?_ _)); exact BK452.out) hb); have n8_ := Aside0.mk (below_step (by repeat (first | (with_reducible first | exact HB.out | apply below_alloc | apply pw_below_drewN | apply below_drew1 | refine below_set ?_ GE428.out | refine below_set ?_ GE429.out | refine below_set ?_ GE436.out | refine below_set ?_ GE444.out | refine below_set ?_ GE452.out) | exact HB.out)) hb); clear HO434; clear HO441; clear HO449; clear BK428; clear BK429; clear BK436; clear BK444; clear BK452; clear HB; have HO434 := n0_; have HO441 := n1_; have HO449 := n2_; have BK428 := n3_; have BK429 := n4_; have BK436 := n5_; have BK444 := n6_; have BK452 := n7_; have HB := n8_; clear n0_ n1_ n2_ n3_ n4_ n5_ n6_ n7_ n8_; (try clear hb); (try clear hb2); (try clear hk); (try clear hi)))
      go_meet
      case rel => (first | exact ⟨_, (!t454), (by first | rfl | (simp; done) | (simp [*]; done)), H', ⟨by first | omega | exact Nat.le_refl _⟩, ⟨by (with_reducible repeat (first | apply Kd.R_alloc | apply Kd.R_drewN | apply Kd.R_drew)); exact Kd.R_mono HO434.out (fun _ hk => ⟨hk.1.2, ⟨hk.2, hk.1.1.2⟩⟩)⟩, ⟨by (with_reducible repeat (first | apply Kd.R_alloc | apply Kd.R_drewN | apply Kd.R_drew)); exact Kd.R_mono HO441.out (fun _ hk => ⟨hk.1.1.2, ⟨hk.2, hk.1.2⟩⟩)⟩, ⟨by (with_reducible repeat (first | apply Kd.R_alloc | apply Kd.R_drewN | apply Kd.R_drew)); exact Kd.R_mono HO449.out (fun _ hk => ⟨hk.1.1.2, ⟨hk.1.2, hk.2⟩⟩)⟩, ⟨by (with_reducible repeat (first | refine blk_drewN ?_ _ | refine blk_drew ?_ | refine blk_alloc ?_ _)); exact BK428.out⟩, ⟨by (with_reducible repeat (first | refine blk_drewN ?_ _ | refine blk_drew ?_ | refine blk_alloc ?_ _)); exact BK429.out⟩, ⟨by (with_reducible repeat (first | refine blk_drewN ?_ _ | refine blk_drew ?_ | refine blk_alloc ?_ _)); exact BK436.out⟩, ⟨by (with_reducible repeat (first | refine blk_drewN ?_ _ | refine blk_drew ?_ | refine blk_alloc ?_ _)); exact BK444.out⟩, ⟨by (with_reducible repeat (first | refine blk_drewN ?_ _ | refine blk_drew ?_ | refine blk_alloc ?_ _)); exact BK452.out⟩, ⟨by repeat (first | (with_reducible first | exact HB.out | apply below_alloc | apply pw_below_drewN | apply below_drew1 | refine below_set ?_ GE428.out | refine below_set ?_ GE429.out | refine below_set ?_ GE436.out | refine below_set ?_ GE444.out | refine below_set ?_ GE452.out) | exact HB.out)⟩⟩ | exact ⟨_, (true), (by first | rfl | (simp; done) | (simp [*]; done)), H', ⟨by first | omega | exact Nat.le_refl _⟩, ⟨by (with_reducible repeat (first | apply Kd.R_alloc | apply Kd.R_drewN | apply Kd.R_drew)); exact Kd.R_mono HO434.out (fun _ hk => ⟨hk.1.2, ⟨hk.2, hk.1.1.2⟩⟩)⟩, ⟨by (with_reducible repeat (first | apply Kd.R_alloc | apply Kd.R_drewN | apply Kd.R_drew)); exact Kd.R_mono HO441.out (fun _ hk => ⟨hk.1.1.2, ⟨hk.2, hk.1.2⟩⟩)⟩, ⟨by (with_reducible repeat (first | apply Kd.R_alloc | apply Kd.R_drewN | apply Kd.R_drew)); exact Kd.R_mono HO449.out (fun _ hk => ⟨hk.1.1.2, ⟨hk.1.2, hk.2⟩⟩)⟩, ⟨by (with_reducible repeat (first | refine blk_drewN ?_ _ | refine blk_drew ?_ | refine blk_alloc ?_ _)); exact BK428.out⟩, ⟨by (with_reducible repeat (first | refine blk_drewN ?_ _ | refine blk_drew ?_ | refine blk_alloc ?_ _)); exact BK429.out⟩, ⟨by (with_reducible repeat (first | refine blk_drewN ?_ _ | refine blk_drew ?_ | refine blk_alloc ?_ _)); exact BK436.out⟩, ⟨by (with_reducible repeat (first | refine blk_drewN ?_ _ | refine blk_drew ?_ | refine blk_alloc ?_ _)); exact BK444.out⟩, ⟨by (with_reducible repeat (first | refine blk_drewN ?_ _ | refine blk_drew ?_ | refine blk_alloc ?_ _)); exact BK452.out⟩, ⟨by repeat (first | (with_reducible first | exact HB.out | apply below_alloc | apply pw_below_drewN | apply below_drew1 | refine below_set ?_ GE428.out | refine below_set ?_ GE429.out | refine below_set ?_ GE436.out | refine below_set ?_ GE444.out | refine below_set ?_ GE452.out) | exact HB.out)⟩⟩)
  case rest =>
    clear HC6
    try clear hcz10_0
    try clear hcz10_1
    try clear hcz10_2
    try clear hcz10_3
    try clear hcz15_0
    try clear hcz15_1
    try clear hcz15_2
    try clear hcz15_3
    try clear hcz17_0
    try clear hcz17_1
    try clear hcz17_2
    try clear hcz23_0
    try clear hcz23_1
    try clear hcz23_2
    try clear hcz23_3
    try clear hcz25_0
    try clear hcz25_1
    try clear hcz25_2
    try clear hcz25_3
    try clear hcz26_0
    try clear hcz26_1
    try clear hcz26_2
    try clear hcz33_0
    try clear hcz33_1
    try clear hcz33_2
    try clear hcz33_3
    try clear hfz10_0
    try clear hfz10_1
    try clear hfz10_2
    try clear hfz10_3
    try clear hfz15_0
    try clear hfz15_1
    try clear hfz15_2
    try clear hfz15_3
    try clear hfz17_0
    try clear hfz17_1
    try clear hfz17_2
    try clear hfz23_0
    try clear hfz23_1
    try clear hfz23_2
    try clear hfz23_3
    try clear hfz25_0
    try clear hfz25_1
    try clear hfz25_2
    try clear hfz25_3
    try clear hfz26_0
    try clear hfz26_1
    try clear hfz26_2
    try clear hfz33_0
    try clear hfz33_1
    try clear hfz33_2
    try clear hfz33_3
    obtain ⟨kq, x38_5, rfl, HA, HJ5, HO_437002, HO_445002, HO_453002, BK428, BK429, BK436, BK444, BK452, HB⟩ := hcut
    cases kq with
    | zero => exact absurd HA.out (by simp [rialtolaw08_EntriesAdd.j0])
    | succ kj5 =>
      have H := HA.out
      clear HA
      simp only [rialtolaw08_EntriesAdd.j0] at H
      by_cases c75 : x38_5 = true
      focus
        subst c75
        have H1 : (some false) = some r := by rw [if_pos rfl] at H; exact H
        clear H
        have H := H1
        clear H1
        obtain rfl := Option.some.inj H
      rotate_left 1
      focus
        replace c75 := Bool.eq_false_iff.mpr c75
        subst c75
        have H1 : ((rialtolaw08_spoil.f kj5 t439).bind fun t455 => ((rialtoref08_Same.f kj5 t430 t431 t432 t435 a0_0 a0_1 l0_2 a0_3).bind fun t456 => (if t456 = true then ((rialtolaw08_live.f kj5).bind fun t457 => (some t457)) else (some false)))) = some r := by rw [if_neg (show ¬ (false = true) by decide)] at H; exact H
        clear H
        have H := H1
        clear H1
        replace H := Option.bind_eq_some_iff.mp H
        obtain ⟨t455, A760, H⟩ := H
        replace H : ((rialtoref08_Same.f kj5 t430 t431 t432 t435 a0_0 a0_1 l0_2 a0_3).bind fun t456 => (if t456 = true then ((rialtolaw08_live.f kj5).bind fun t457 => (some t457)) else (some false))) = some r := H
        have A76 := Aside0.mk A760
        clear A760
        replace H := Option.bind_eq_some_iff.mp H
        obtain ⟨t456, A770, H⟩ := H
        replace H : (if t456 = true then ((rialtolaw08_live.f kj5).bind fun t457 => (some t457)) else (some false)) = some r := H
        have A77 := Aside0.mk A770
        clear A770
        by_cases c78 : t456 = true
        focus
          subst c78
          have H1 : ((rialtolaw08_live.f kj5).bind fun t457 => (some t457)) = some r := by rw [if_pos rfl] at H; exact H
          clear H
          have H := H1
          clear H1
          replace H := Option.bind_eq_some_iff.mp H
          obtain ⟨t457, A790, H⟩ := H
          replace H : (some t457) = some r := H
          have A79 := Aside0.mk A790
          clear A790
          obtain rfl := Option.some.inj H
        rotate_left 1
        focus
          replace c78 := Bool.eq_false_iff.mpr c78
          subst c78
          have H1 : (some false) = some r := by rw [if_neg (show ¬ (false = true) by decide)] at H; exact H
          clear H
          have H := H1
          clear H1
          obtain rfl := Option.some.inj H
        rotate_left 1
      rotate_left 2
      all_goals
        (try have hnbyb444_428 := NB444_428.out)
        (try have hncyb428_444 := NB428_444.out)
        (try have hnbyb444_429 := NB444_429.out)
        (try have hncyb429_444 := NB429_444.out)
        (try have hnbyb444_436 := NB444_436.out)
        (try have hncyb436_444 := NB436_444.out)
        (try have hnbyb444_452 := NB444_452.out)
        (try have hncyb452_444 := NB452_444.out)
        (try have hczyb444_0 : wc.cell? ⟨gb444, 0, none⟩ = some (.int .i64 t437) := (blk_cell BK444.out 0).trans rfl)
        (try have hczyb444_1 : wc.cell? ⟨gb444, 1, none⟩ = some (.int .i64 t438) := (blk_cell BK444.out 1).trans rfl)
        (try have hczyb444_2 : wc.cell? ⟨gb444, 2, none⟩ = some (.slice Ao24 t439.length co24) := (blk_cell BK444.out 2).trans rfl)
        (try have hczyb444_3 : wc.cell? ⟨gb444, 3, none⟩ = some (.int .i64 t442) := (blk_cell BK444.out 3).trans rfl)
        (try have hfzyb444_0 := blk_frozen BK444.out 0)
        (try have hfzyb444_1 := blk_frozen BK444.out 1)
        (try have hfzyb444_2 := blk_frozen BK444.out 2)
        (try have hfzyb444_3 := blk_frozen BK444.out 3)
        go_wp2_with (first | ((with_reducible refine gate_callee (f := 23) rfl ?_); refine goesL_ (some 41) rfl rfl Try.func23 (by kernel_rfl) rfl #[.slice Ao24 t439.length co24] rfl (by (try simp only [List.map_toArray, List.map_cons, List.map_nil]); first | done | rfl | (simp only [List.length_drop, List.length_take]; rfl)) ?_; (with_reducible refine (rialtolaw08_spoil.calls kj5 (fun k_ => some k_ = (.slice Ao24 t439.length co24 : Value).ownBlock) (.slice Ao24 t439.length co24) t439 t455 w _ ?side1 ?side2 A76.out).mono ?_); (case side1 => repeat (first | (with_reducible first | exact HB.out | apply below_alloc | apply pw_below_drewN | apply below_drew1 | refine below_set ?_ GE428.out | refine below_set ?_ GE429.out | refine below_set ?_ GE436.out | refine below_set ?_ GE444.out | refine below_set ?_ GE452.out) | exact HB.out)); (case side2 => exact Kd.R_tight rfl HO_445002.out); rintro e wx41i0 ⟨rfl, hy0, hb, hkp⟩; refine ⟨_, rfl, ?_⟩; have n0_ := Aside0.mk (Kd.R_mono (ok' := fun k_ => some k_ ≠ (.slice Ao24 t439.length co24 : Value).ownBlock ∧ some k_ ≠ (.slice Ao34 t447.length co34 : Value).ownBlock ∧ k_ ≠ gb429) (Kd.R_keptB (HO_437002.out) hkp (fun k_ hk_ hs_ => (hk_.1) hs_)) (fun k_ hk_ => ⟨hk_.1.1, hk_.1.2.1, hk_.1.2.2⟩)); have n1_ := Aside0.mk (Kd.R_reok rfl hy0 (fun k_ e_ => HO_445002.out.1 k_ e_)); have n2_ := Aside0.mk (Kd.R_mono (ok' := fun k_ => some k_ ≠ (.slice Ao16 t432.length co16 : Value).ownBlock ∧ some k_ ≠ (.slice Ao24 t439.length co24 : Value).ownBlock ∧ k_ ≠ gb429) (Kd.R_keptB (HO_453002.out) hkp (fun k_ hk_ hs_ => (hk_.2.1) hs_)) (fun k_ hk_ => ⟨hk_.1.1, hk_.1.2.1, hk_.1.2.2⟩)); have n3_ := Aside0.mk (blk_kept (by (with_reducible repeat (first | refine blk_drewN ?_ _ | refine blk_drew ?_ | refine blk_alloc ?_ _)); exact BK428.out) hkp (fun hs_ => (fun e_ => (Kd.R_ne HO_445002.out BK428.out (by decide)) e_) hs_)); have n4_ := Aside0.mk (blk_kept (by (with_reducible repeat (first | refine blk_drewN ?_ _ | refine blk_drew ?_ | refine blk_alloc ?_ _)); exact BK429.out) hkp (fun hs_ => (fun e_ => (Kd.R_away HO_445002.out (fun _ hk => hk.2.2)) e_) hs_)); have n5_ := Aside0.mk (blk_kept (by (with_reducible repeat (first | refine blk_drewN ?_ _ | refine blk_drew ?_ | refine blk_alloc ?_ _)); exact BK436.out) hkp (fun hs_ => (fun e_ => (Kd.R_ne HO_445002.out BK436.out (by decide)) e_) hs_)); have n6_ := Aside0.mk (blk_kept (by (with_reducible repeat (first | refine blk_drewN ?_ _ | refine blk_drew ?_ | refine blk_alloc ?_ _)); exact BK444.out) hkp (fun hs_ => (fun e_ => (Kd.R_ne HO_445002.out BK444.out (by decide)) e_) hs_)); have n7_ := Aside0.mk (blk_kept (by (with_reducible repeat (first | refine blk_drewN ?_ _ | refine blk_drew ?_ | refine blk_alloc ?_ _)); exact BK452.out) hkp (fun hs_ => (fun e_ => (Kd.R_ne HO_445002.out BK452.out (by decide)) e_) hs_)); have n8_ := Aside0.mk (hb); clear HO_437002; clear HO_445002; clear HO_453002; clear BK428; clear BK429; clear BK436; clear BK444; clear BK452; clear HB; have HO_437002 := n0_; have HO_445002 := n1_; have HO_453002 := n2_; have BK428 := n3_; have BK429 := n4_; have BK436 := n5_; have BK444 := n6_; have BK452 := n7_; have HB := n8_; clear n0_ n1_ n2_ n3_ n4_ n5_ n6_ n7_ n8_; (try clear hb); (try clear hkp); (try clear hy0); have hnbx41b436_428 := NB436_428.out; have hncx41b428_436 := NB428_436.out; have hnbx41b436_429 := NB436_429.out; have hncx41b429_436 := NB429_436.out; have hnbx41b436_452 := NB436_452.out; have hncx41b452_436 := NB452_436.out; have hczx41b436_0 : wx41i0.cell? ⟨gb436, 0, none⟩ = some (.int .i64 t430) := (blk_cell BK436.out 0).trans rfl; have hczx41b436_1 : wx41i0.cell? ⟨gb436, 1, none⟩ = some (.int .i64 t431) := (blk_cell BK436.out 1).trans rfl; have hczx41b436_2 : wx41i0.cell? ⟨gb436, 2, none⟩ = some (.slice Ao16 t432.length co16) := (blk_cell BK436.out 2).trans rfl; have hczx41b436_3 : wx41i0.cell? ⟨gb436, 3, none⟩ = some (.int .i64 t435) := (blk_cell BK436.out 3).trans rfl; have hfzx41b436_0 := blk_frozen BK436.out 0; have hfzx41b436_1 := blk_frozen BK436.out 1; have hfzx41b436_2 := blk_frozen BK436.out 2; have hfzx41b436_3 := blk_frozen BK436.out 3; have hnbx41b428_429 := NB428_429.out; have hncx41b429_428 := NB429_428.out; have hnbx41b428_452 := NB428_452.out; have hncx41b452_428 := NB452_428.out; have hczx41b428_0 : wx41i0.cell? ⟨gb428, 0, none⟩ = some (.int .i64 a0_0) := (blk_cell BK428.out 0).trans rfl; have hczx41b428_1 : wx41i0.cell? ⟨gb428, 1, none⟩ = some (.int .i64 a0_1) := (blk_cell BK428.out 1).trans rfl; have hczx41b428_2 : wx41i0.cell? ⟨gb428, 2, none⟩ = some (.slice A0_2 l0_2.length c0_2) := (blk_cell BK428.out 2).trans rfl; have hczx41b428_3 : wx41i0.cell? ⟨gb428, 3, none⟩ = some (.int .i64 a0_3) := (blk_cell BK428.out 3).trans rfl; have hfzx41b428_0 := blk_frozen BK428.out 0; have hfzx41b428_1 := blk_frozen BK428.out 1; have hfzx41b428_2 := blk_frozen BK428.out 2; have hfzx41b428_3 := blk_frozen BK428.out 3) | ((with_reducible refine gate_callee (f := 16) rfl ?_); refine goesL_ (some 44) rfl rfl Try.func16 (by kernel_rfl) rfl #[.agg #[.int .i64 t430, .int .i64 t431, .slice Ao16 t432.length co16, .int .i64 t435], .agg #[.int .i64 a0_0, .int .i64 a0_1, .slice A0_2 l0_2.length c0_2, .int .i64 a0_3]] rfl (by (try simp only [List.map_toArray, List.map_cons, List.map_nil]); first | done | rfl | (simp only [List.length_drop, List.length_take]; rfl)) ?_; (with_reducible refine (rialtoref08_Same.calls kj5 t430 t431 _ _ t432 t435 a0_0 a0_1 _ _ l0_2 a0_3 _ _ ?side1 ?side2 ?side3 ?side4 A77.out).mono ?_); (case side1 => repeat (first | exact (Kd.R_reads' HO_437002.out).2.2 | (with_reducible refine Kd.C_alloc ?_ _) | (with_reducible refine Kd.C_drewN ?_ _) | (with_reducible refine Kd.C_drew ?_))); (case side2 => exact (Kd.R_reads' HO_437002.out).2.1); (case side3 => repeat (first | exact (Kd.C_below HR0_2.out HB.out) | (with_reducible refine Kd.C_alloc ?_ _) | (with_reducible refine Kd.C_drewN ?_ _) | (with_reducible refine Kd.C_drew ?_))); (case side4 => exact HC0_2.out); rintro e wx44i0 ⟨rfl, hb⟩; refine ⟨_, rfl, ?_⟩; have n0_ := Aside0.mk (Kd.R_below (by (with_reducible repeat (first | apply Kd.R_alloc | apply Kd.R_drewN | apply Kd.R_drew)); exact HO_437002.out) hb); have n1_ := Aside0.mk (Kd.R_below (by (with_reducible repeat (first | apply Kd.R_alloc | apply Kd.R_drewN | apply Kd.R_drew)); exact HO_445002.out) hb); have n2_ := Aside0.mk (Kd.R_below (by (with_reducible repeat (first | apply Kd.R_alloc | apply Kd.R_drewN | apply Kd.R_drew)); exact HO_453002.out) hb); have n3_ := Aside0.mk (blk_below (g := gb428) (o := .cells #[.int .i64 a0_0, .int .i64 a0_1, .slice A0_2 l0_2.length c0_2, .int .i64 a0_3] 26 (0, 0)) (by (with_reducible repeat (first | refine blk_drewN ?_ _ | refine blk_drew ?_ | refine blk_alloc ?_ _)); exact BK428.out) hb); have n4_ := Aside0.mk (blk_below (g := gb429) (o := .cells #[.int .i64 a1_0, .int .i64 a1_1, .string a1_2] 33 (0, 0)) (by (with_reducible repeat (first | refine blk_drewN ?_ _ | refine blk_drew ?_ | refine blk_alloc ?_ _)); exact BK429.out) hb); have n5_ := Aside0.mk (blk_below (g := gb436) (o := .cells #[.int .i64 t430, .int .i64 t431, .slice Ao16 t432.length co16, .int .i64 t435] 26 (0, 0)) (by (with_reducible repeat (first | refine blk_drewN ?_ _ | refine blk_drew ?_ | refine blk_alloc ?_ _)); exact BK436.out) hb); have n6_ := Aside0.mk (blk_below (g := gb444) (o := .cells #[.int .i64 t437, .int .i64 t438, .slice Ao24 t439.length co24, .int .i64 t442] 26 (0, 0)) (by (with_reducible repeat (first | refine blk_drewN ?_ _ | refine blk_drew ?_ | refine blk_alloc ?_ _)); exact BK444.out) hb); have n7_ := Aside0.mk (blk_below (g := gb452) (o := .cells #[.int .i64 t445, .int .i64 t446, .slice Ao34 t447.length co34, .int .i64 t450] 26 (0, 0)) (by (with_reducible repeat (first | refine blk_drewN ?_ _ | refine blk_drew ?_ | refine blk_alloc ?_ _)); exact BK452.out) hb); have n8_ := Aside0.mk (below_step (by repeat (first | (with_reducible first | exact HB.out | apply below_alloc | apply pw_below_drewN | apply below_drew1 | refine below_set ?_ GE428.out | refine below_set ?_ GE429.out | refine below_set ?_ GE436.out | refine below_set ?_ GE444.out | refine below_set ?_ GE452.out) | exact HB.out)) hb); clear HO_437002; clear HO_445002; clear HO_453002; clear BK428; clear BK429; clear BK436; clear BK444; clear BK452; clear HB; have HO_437002 := n0_; have HO_445002 := n1_; have HO_453002 := n2_; have BK428 := n3_; have BK429 := n4_; have BK436 := n5_; have BK444 := n6_; have BK452 := n7_; have HB := n8_; clear n0_ n1_ n2_ n3_ n4_ n5_ n6_ n7_ n8_; (try clear hb); (try clear hb2); (try clear hk); (try clear hi)) | (go_at_call 24; (with_reducible refine (rialtolaw08_live.calls kj5  t457 _ A79.out).mono ?_); rintro e wyi0 ⟨rfl, hb⟩; have n0_ := Aside0.mk (Kd.R_below (by (with_reducible repeat (first | apply Kd.R_alloc | apply Kd.R_drewN | apply Kd.R_drew)); exact HO_437002.out) hb); have n1_ := Aside0.mk (Kd.R_below (by (with_reducible repeat (first | apply Kd.R_alloc | apply Kd.R_drewN | apply Kd.R_drew)); exact HO_445002.out) hb); have n2_ := Aside0.mk (Kd.R_below (by (with_reducible repeat (first | apply Kd.R_alloc | apply Kd.R_drewN | apply Kd.R_drew)); exact HO_453002.out) hb); have n3_ := Aside0.mk (blk_below (g := gb428) (o := .cells #[.int .i64 a0_0, .int .i64 a0_1, .slice A0_2 l0_2.length c0_2, .int .i64 a0_3] 26 (0, 0)) (by (with_reducible repeat (first | refine blk_drewN ?_ _ | refine blk_drew ?_ | refine blk_alloc ?_ _)); exact BK428.out) hb); have n4_ := Aside0.mk (blk_below (g := gb429) (o := .cells #[.int .i64 a1_0, .int .i64 a1_1, .string a1_2] 33 (0, 0)) (by (with_reducible repeat (first | refine blk_drewN ?_ _ | refine blk_drew ?_ | refine blk_alloc ?_ _)); exact BK429.out) hb); have n5_ := Aside0.mk (blk_below (g := gb436) (o := .cells #[.int .i64 t430, .int .i64 t431, .slice Ao16 t432.length co16, .int .i64 t435] 26 (0, 0)) (by (with_reducible repeat (first | refine blk_drewN ?_ _ | refine blk_drew ?_ | refine blk_alloc ?_ _)); exact BK436.out) hb); have n6_ := Aside0.mk (blk_below (g := gb444) (o := .cells #[.int .i64 t437, .int .i64 t438, .slice Ao24 t439.length co24, .int .i64 t442] 26 (0, 0)) (by (with_reducible repeat (first | refine blk_drewN ?_ _ | refine blk_drew ?_ | refine blk_alloc ?_ _)); exact BK444.out) hb); have n7_ := Aside0.mk (blk_below (g := gb452) (o := .cells #[.int .i64 t445, .int .i64 t446, .slice Ao34 t447.length co34, .int .i64 t450] 26 (0, 0)) (by (with_reducible repeat (first | refine blk_drewN ?_ _ | refine blk_drew ?_ | refine blk_alloc ?_ _)); exact BK452.out) hb); have n8_ := Aside0.mk (below_step (by repeat (first | (with_reducible first | exact HB.out | apply below_alloc | apply pw_below_drewN | apply below_drew1 | refine below_set ?_ GE428.out | refine below_set ?_ GE429.out | refine below_set ?_ GE436.out | refine below_set ?_ GE444.out | refine below_set ?_ GE452.out) | exact HB.out)) hb); clear HO_437002; clear HO_445002; clear HO_453002; clear BK428; clear BK429; clear BK436; clear BK444; clear BK452; clear HB; have HO_437002 := n0_; have HO_445002 := n1_; have HO_453002 := n2_; have BK428 := n3_; have BK429 := n4_; have BK436 := n5_; have BK444 := n6_; have BK452 := n7_; have HB := n8_; clear n0_ n1_ n2_ n3_ n4_ n5_ n6_ n7_ n8_; (try clear hb); (try clear hb2); (try clear hk); (try clear hi)))
        go_ret
        exact ⟨by first | rfl | (simp [errW_none, errW_some] <;> rfl) | (simp [*, errW_none, errW_some] <;> rfl), by repeat (first | (with_reducible first | exact HB.out | apply below_alloc | apply pw_below_drewN | apply below_drew1 | refine below_set ?_ GE428.out | refine below_set ?_ GE429.out | refine below_set ?_ GE436.out | refine below_set ?_ GE444.out | refine below_set ?_ GE452.out) | exact HB.out)⟩

end Go.Proofs.Ytiebeiloooblpaa.E
end
section
-- the statement of a law, by myprint.py
namespace Go.Proofs.Ytiebeiloooblpaa.E
open Go.RowKit Go.Proofs.YtiebeiloooblpaaW.PrintWords Go.Proofs.YtiebeiloooblpaaW.PrintLast Go.Proofs.YtiebeiloooblpaaW.PrintMore
attribute [local go_sem] max2_int min2_int max_two min_two max_three min_three max_four min_four   -- for this text's walks alone
set_option linter.unusedVariables false
set_option linter.unusedSimpArgs false

def GEl33 (x : S33) : Prop := ((Lit.int .i64 x.f0).wf = true) ∧ ((Lit.int .i64 x.f1).wf = true) ∧ x.f2.size ≤ 140737488351232
/-- THE PURE STATEMENT of rialtolaw08_EntriesAdd. -/
def rialtolaw08_EntriesAdd.Pure : Prop := ∀ (a0_0 : Int) (a0_1 : Int) (l0_2 : List (S33)) (a0_3 : Int) (a1_0 : Int) (a1_1 : Int) (a1_2 : ByteArray), ((Lit.int .i64 a0_0).wf = true) → ((Lit.int .i64 a0_1).wf = true) → (l0_2.length * 32 ≤ 140737488351232 ∧ ∀ y_ ∈ l0_2, GEl33 y_) → ((Lit.int .i64 a0_3).wf = true) → ((Lit.int .i64 a1_0).wf = true) → ((Lit.int .i64 a1_1).wf = true) → (a1_2.size ≤ 140737488351232) → ∃ k, rialtolaw08_EntriesAdd.f k a0_0 a0_1 l0_2 a0_3 a1_0 a1_1 a1_2 = some true
end Go.Proofs.Ytiebeiloooblpaa.E
end
section
/- Rounds: from some round on a function answers; words for plain laws. -/
namespace Go.Proofs.YtiebeiloooblpaaW.PrintWords
theorem Ev.eqv {α : Type} {F : Nat → Option α} {v u : α} (h : Ev F u) (e : u = v) : Ev F v := e ▸ h
theorem Ev.ite {α : Type} {c : Prop} [Decidable c] {F G : Nat → Option α} {v : α} (h : c → Ev F v) (g : ¬ c → Ev G v) : Ev (fun k => if c then F k else G k) v := by
  by_cases hc : c
  · simpa [hc] using h hc
  · simpa [hc] using g hc
theorem Ev.pos {α : Type} {c : Prop} [Decidable c] {F G : Nat → Option α} {v : α} (hc : c) (h : Ev F v) : Ev (fun k => if c then F k else G k) v := by
  simpa [hc] using h
theorem Ev.neg {α : Type} {c : Prop} [Decidable c] {F G : Nat → Option α} {v : α} (hc : ¬ c) (h : Ev G v) : Ev (fun k => if c then F k else G k) v := by
  simpa [hc] using h
theorem Ev.succ {α : Type} {F : Nat → Option α} {v : α} (h : Ev (fun k => F (k + 1)) v) : Ev F v := Ev.step (fun _ => rfl) h
end Go.Proofs.YtiebeiloooblpaaW.PrintWords
namespace Go.Proofs.YtiebeiloooblpaaEV
open Go.RowKit Go.Proofs.YtiebeiloooblpaaW.PrintWords
theorem w64 (n : Int) (h0 : -9223372036854775808 ≤ n) (h1 : n ≤ 9223372036854775807) : wrap64 n = n := by
  unfold wrap64; omega
theorem drop_one {α : Type} (l : List α) (d : α) (n : Nat) (h : n < l.length) : l.drop n = l.getD n d :: l.drop (n + 1) := by
  rw [List.drop_eq_getElem_cons h]; simp [List.getD, h]
end Go.Proofs.YtiebeiloooblpaaEV
end
section
-- written by myprint.py, a program of this session over the kit's print.py
namespace Go.Proofs.Ytiebeiloooblpaa.E
open Go.RowKit Go.Proofs.YtiebeiloooblpaaW.PrintWords Go.Proofs.YtiebeiloooblpaaW.PrintLast Go.Proofs.YtiebeiloooblpaaW.PrintMore
attribute [local go_sem] max2_int min2_int max_two min_two max_three min_three max_four min_four   -- for this text's walks alone
set_option linter.unusedVariables false
set_option linter.unusedSimpArgs false

/-! ### rialtoref08_TermAt: function 28 -/
end Go.Proofs.Ytiebeiloooblpaa.E
end
section
namespace Go.Proofs.Ytiebeiloooblpaa.Pure
open Go.RowKit Go.Proofs.Ytiebeiloooblpaa.E Go.Proofs.YtiebeiloooblpaaW.PrintWords Go.Proofs.YtiebeiloooblpaaW.PrintLast Go.Proofs.YtiebeiloooblpaaW.PrintMore Go.Proofs.YtiebeiloooblpaaEV
-- the plain law of layer 8's logs
def isEn (x : S33) : Bool := entries_isEntry.p x.f0 x.f1 x.f2
def isMk (i t : Int) : Bool := (decide (0 ≤ i) && decide (i ≤ 1000000)) && ((decide (0 ≤ t) && decide (t ≤ 1000000)) && ((i == 0) == (t == 0)))
def rows : List S33 → Int → Bool
  | [], _ => true
  | x :: l, f => isEn x && (decide (f ≤ x.f0) && rows l x.f0)
def chk (b0 b1 : Int) (l : List S33) (c : Int) : Bool := isMk b0 b1 && (decide (l.length ≤ 400) && (rows l b1 && (decide (b0 + l.length ≤ 1000000) && (decide (b0 ≤ c) && decide (c ≤ b0 + l.length)))))

theorem entries_within_eq (a b c : Int) : entries_within.f a b c = some (decide (b ≤ a) && decide (a ≤ c)) := by
  unfold entries_within.f; by_cases h : b ≤ a <;> simp [h]
theorem ref08_within_eq (a b c : Int) : rialtoref08_within.f a b c = some (decide (b ≤ a) && decide (a ≤ c)) := by
  unfold rialtoref08_within.f; by_cases h : b ≤ a <;> simp [h]
theorem ref07_within_eq (a b c : Int) : rialtoref07_within.f a b c = some (decide (b ≤ a) && decide (a ≤ c)) := by
  unfold rialtoref07_within.f; by_cases h : b ≤ a <;> simp [h]
theorem entries_isMark_eq (i t : Int) : entries_isMark.f i t = some (isMk i t) := by
  unfold entries_isMark.f isMk
  simp only [entries_within_eq, Option.bind_some]
  by_cases h : (decide (0 ≤ i) && decide (i ≤ 1000000)) = true
  · rw [if_pos h, h]
    by_cases g : (decide (0 ≤ t) && decide (t ≤ 1000000)) = true
    · rw [if_pos g, g]; simp
    · rw [if_neg g]; simp [Bool.eq_false_iff.mpr g]
  · rw [if_neg h]; simp [Bool.eq_false_iff.mpr h]
theorem ref07_Mark_eq (i t : Int) : rialtoref07_Mark.f i t = some (isMk i t) := by
  unfold rialtoref07_Mark.f isMk
  simp only [ref07_within_eq, Option.bind_some]
  by_cases h : (decide (0 ≤ i) && decide (i ≤ 1000000)) = true
  · rw [if_pos h, h]
    by_cases g : (decide (0 ≤ t) && decide (t ≤ 1000000)) = true
    · rw [if_pos g, g]; simp
    · rw [if_neg g]; simp [Bool.eq_false_iff.mpr g]
  · rw [if_neg h]; simp [Bool.eq_false_iff.mpr h]
theorem ref08_Entry_eq (a b : Int) (s : ByteArray) : rialtoref08_Entry.f a b s = some (entries_isEntry.p a b s) := by
  unfold rialtoref08_Entry.f entries_isEntry.p
  simp only [ref08_within_eq, Option.bind_some]
  by_cases h : (decide (1 ≤ a) && decide (a ≤ 1000000)) = true
  · rw [if_pos h, h]
    by_cases hb : b = 1
    · subst hb
      by_cases hs : s.toList = ([] : List UInt8)
      · simp [hs]
      · simp [hs]
    · by_cases hb2 : b = 2
      · subst hb2; simp
      · simp [hb, hb2]
  · rw [if_neg h]; simp [Bool.eq_false_iff.mpr h]
theorem rd33 (l : List S33) (n : Nat) : rd_T33 l (n : Int) = l.getD n z33 := by simp [rd_T33]

theorem entries_rising_l (l : List S33) (hl : l.length < 4398046511104) (m n : Nat) (hn : n + m = l.length) (a : Int) :
    Ev (fun k => entries_rising.l0 k a l (l.length : Int) (n : Int)) (rows (l.drop n) a) := by
  induction m generalizing n a with
  | zero =>
    refine Ev.succ ?_
    simp only [entries_rising.l0]
    refine Ev.neg (by omega) ?_
    rw [List.drop_eq_nil_of_le (by omega)]
    exact Ev.now _
  | succ m ih =>
    refine Ev.succ ?_
    simp only [entries_rising.l0]
    refine Ev.pos (by omega) ?_
    refine Ev.pos (by omega) ?_
    refine Ev.pos (by omega) ?_
    rw [rd33, drop_one l z33 n (by omega)]
    unfold entries_isEntry.f
    simp only [Option.bind_some, rows, isEn]
    by_cases h : entries_isEntry.p (l.getD n z33).f0 (l.getD n z33).f1 (l.getD n z33).f2 = true
    · simp only [h, if_true, Bool.true_and]
      by_cases g : (l.getD n z33).f0 < a
      · simp only [g, if_true]
        rw [decide_eq_false (show ¬ a ≤ (l.getD n z33).f0 by omega), Bool.false_and]
        exact Ev.now _
      · simp only [g, if_false]
        rw [w64 _ (by omega) (by omega)]
        have := ih (n + 1) (by omega) (l.getD n z33).f0
        rw [decide_eq_true (show a ≤ (l.getD n z33).f0 by omega), Bool.true_and]
        exact this
    · simp only [Bool.eq_false_iff.mpr h, Bool.false_eq_true, if_false, Bool.false_and]
      exact Ev.now _
theorem ref08_Rows_l (l : List S33) (hl : l.length < 4398046511104) (m n : Nat) (hn : n + m = l.length) (a : Int) :
    Ev (fun k => rialtoref08_Rows.l0 k l a (n : Int)) (rows (l.drop n) a) := by
  induction m generalizing n a with
  | zero =>
    refine Ev.succ ?_
    simp only [rialtoref08_Rows.l0]
    refine Ev.neg (by omega) ?_
    rw [List.drop_eq_nil_of_le (by omega)]
    exact Ev.now _
  | succ m ih =>
    refine Ev.succ ?_
    simp only [rialtoref08_Rows.l0]
    refine Ev.pos (by omega) ?_
    refine Ev.pos (by omega) ?_
    rw [rd33, drop_one l z33 n (by omega)]
    simp only [ref08_Entry_eq, Option.bind_some, rows, isEn]
    by_cases h : entries_isEntry.p (l.getD n z33).f0 (l.getD n z33).f1 (l.getD n z33).f2 = true
    · simp only [h, if_true, Bool.true_and]
      by_cases g : (l.getD n z33).f0 < a
      · simp only [g, if_true]
        rw [decide_eq_false (show ¬ a ≤ (l.getD n z33).f0 by omega), Bool.false_and]
        exact Ev.now _
      · simp only [g, if_false]
        rw [w64 _ (by omega) (by omega)]
        have := ih (n + 1) (by omega) (l.getD n z33).f0
        rw [decide_eq_true (show a ≤ (l.getD n z33).f0 by omega), Bool.true_and]
        exact this
    · simp only [Bool.eq_false_iff.mpr h, Bool.false_eq_true, if_false, Bool.false_and]
      exact Ev.now _
theorem entries_rising_ev (l : List S33) (hl : l.length < 4398046511104) (a : Int) : Ev (fun k => entries_rising.f k l a) (rows l a) := by
  have := entries_rising_l l hl l.length 0 (by omega) a
  simpa [entries_rising.f] using this
theorem ref08_Rows_ev (l : List S33) (hl : l.length < 4398046511104) (a : Int) : Ev (fun k => rialtoref08_Rows.f k l a) (rows l a) := by
  have := ref08_Rows_l l hl l.length 0 (by omega) a
  simpa [rialtoref08_Rows.f] using this
theorem isMk_of {i t : Int} (h : isMk i t = true) : 0 ≤ i ∧ i ≤ 1000000 ∧ 0 ≤ t ∧ t ≤ 1000000 ∧ (i = 0 ↔ t = 0) := by
  simp only [isMk, Bool.and_eq_true, decide_eq_true_eq, beq_iff_eq] at h
  obtain ⟨⟨h1, h2⟩, ⟨h3, h4⟩, h5⟩ := h
  refine ⟨h1, h2, h3, h4, ?_⟩
  by_cases hi : i = 0
  · by_cases ht : t = 0
    · simp [hi, ht]
    · simp [hi, ht] at h5
  · by_cases ht : t = 0
    · simp [hi, ht] at h5
    · simp [hi, ht]
theorem chk_of {b0 b1 : Int} {l : List S33} {c : Int} (h : chk b0 b1 l c = true) : (0 ≤ b0 ∧ b0 ≤ 1000000 ∧ 0 ≤ b1 ∧ b1 ≤ 1000000 ∧ (b0 = 0 ↔ b1 = 0)) ∧ l.length ≤ 400 ∧ rows l b1 = true ∧ b0 + l.length ≤ 1000000 ∧ b0 ≤ c ∧ c ≤ b0 + l.length := by
  simp only [chk, Bool.and_eq_true, decide_eq_true_eq] at h
  obtain ⟨h1, h2, h3, h4, h5, h6⟩ := h
  exact ⟨isMk_of h1, h2, h3, h4, h5, h6⟩
theorem entries_Check_ev (b0 b1 : Int) (l : List S33) (c : Int) (hl : l.length < 4398046511104) :
    Ev (fun k => entries_Check.f k b0 b1 l c) (if chk b0 b1 l c = true then 0 else 80) := by
  unfold entries_Check.f chk
  simp only [entries_isMark_eq, Option.bind_some]
  by_cases h1 : isMk b0 b1 = true
  · have hm := isMk_of h1
    simp only [h1, if_true, Bool.true_and]
    by_cases h2 : (l.length : Int) > 400
    · simp only [h2, if_true]
      rw [decide_eq_false (show ¬ l.length ≤ 400 by omega)]
      simp only [Bool.false_and, Bool.false_eq_true, if_false]
      exact Ev.now _
    · simp only [h2, if_false]
      rw [decide_eq_true (show l.length ≤ 400 by omega)]
      simp only [Bool.true_and]
      refine Ev.bind (entries_rising_ev l hl b1) ?_
      by_cases h3 : rows l b1 = true
      · simp only [h3, if_true, Bool.true_and, entries_end.f, Option.bind_some, entries_within_eq]
        rw [w64 _ (by omega) (by omega)]
        by_cases h4 : b0 + (l.length : Int) ≤ 1000000
        · refine Ev.neg (by omega) ?_
          simp only [h4, decide_true, Bool.true_and]
          refine Ev.ite (fun h5 => ?_) (fun h5 => ?_)
          · rw [h5]; exact Ev.now _
          · rw [Bool.eq_false_iff.mpr h5]; exact Ev.now _
        · refine Ev.pos (by omega) ?_
          simp only [h4, decide_false, Bool.false_and, Bool.false_eq_true, if_false]
          exact Ev.now _
      · simp only [Bool.eq_false_iff.mpr h3, Bool.false_and, Bool.false_eq_true, if_false]
        exact Ev.now _
  · simp only [Bool.eq_false_iff.mpr h1, Bool.false_and, Bool.false_eq_true, if_false]
    exact Ev.now _
theorem ref08_Check_ev (b0 b1 : Int) (l : List S33) (c : Int) (hl : l.length < 4398046511104) :
    Ev (fun k => rialtoref08_Check.f k b0 b1 l c) (if chk b0 b1 l c = true then 0 else 80) := by
  unfold rialtoref08_Check.f chk
  simp only [ref07_Mark_eq, Option.bind_some]
  by_cases h1 : isMk b0 b1 = true
  · have hm := isMk_of h1
    simp only [h1, if_true, Bool.true_and]
    by_cases h2 : (l.length : Int) > 400
    · simp only [h2, if_true]
      rw [decide_eq_false (show ¬ l.length ≤ 400 by omega)]
      simp only [Bool.false_and, Bool.false_eq_true, if_false]
      exact Ev.now _
    · simp only [h2, if_false]
      rw [decide_eq_true (show l.length ≤ 400 by omega)]
      simp only [Bool.true_and]
      refine Ev.bind (ref08_Rows_ev l hl b1) ?_
      by_cases h3 : rows l b1 = true
      · simp only [h3, if_true, Bool.true_and, rialtoref08_end.f, Option.bind_some, ref08_within_eq]
        rw [w64 _ (by omega) (by omega)]
        by_cases h4 : b0 + (l.length : Int) ≤ 1000000
        · refine Ev.neg (by omega) ?_
          simp only [h4, decide_true, Bool.true_and]
          refine Ev.ite (fun h5 => ?_) (fun h5 => ?_)
          · rw [h5]; exact Ev.now _
          · rw [Bool.eq_false_iff.mpr h5]; exact Ev.now _
        · refine Ev.pos (by omega) ?_
          simp only [h4, decide_false, Bool.false_and, Bool.false_eq_true, if_false]
          exact Ev.now _
      · simp only [Bool.eq_false_iff.mpr h3, Bool.false_and, Bool.false_eq_true, if_false]
        exact Ev.now _
  · simp only [Bool.eq_false_iff.mpr h1, Bool.false_and, Bool.false_eq_true, if_false]
    exact Ev.now _
/-- the term at an index of a log -/
def termAt (b0 b1 : Int) (l : List S33) (c i : Int) : Int × Bool :=
  if chk b0 b1 l c = true ∧ b0 ≤ i ∧ i ≤ b0 + l.length then (if i = b0 then (b1, true) else ((l.getD (i - b0 - 1).toNat z33).f0, true)) else (0, false)
theorem entries_TermAt_ev (b0 b1 : Int) (l : List S33) (c i : Int) (hl : l.length < 4398046511104) :
    Ev (fun k => entries_TermAt.f k b0 b1 l c i) (termAt b0 b1 l c i) := by
  unfold entries_TermAt.f termAt
  refine Ev.bind (entries_Check_ev b0 b1 l c hl) ?_
  by_cases h1 : chk b0 b1 l c = true
  · obtain ⟨hm, hn, hr, he, hc⟩ := chk_of h1
    simp only [h1, if_true, true_and, entries_end.f, entries_within_eq, Option.bind_some]
    rw [w64 _ (by omega) (by omega)]
    refine Ev.succ ?_
    simp only [entries_TermAt.j0]
    by_cases h2 : b0 ≤ i ∧ i ≤ b0 + l.length
    · rw [if_pos h2]
      obtain ⟨h2, h3⟩ := h2
      refine Ev.neg (by simp; omega) ?_
      by_cases h4 : i = b0
      · refine Ev.eqv ?_ (if_pos h4).symm
        exact Ev.pos h4 (Ev.now _)
      · refine Ev.eqv ?_ (if_neg h4).symm
        have e : wrap64 (wrap64 (i - b0) - 1) = i - b0 - 1 := by rw [w64 (i - b0) (by omega) (by omega), w64 _ (by omega) (by omega)]
        rw [e]
        exact Ev.neg h4 (Ev.pos (by omega) (Ev.pos (by omega) (Ev.now _)))
    · rw [if_neg h2]
      exact Ev.pos (by simp; omega) (Ev.now _)
  · simp only [Bool.eq_false_iff.mpr h1, Bool.false_eq_true, if_false, false_and]
    refine Ev.neg (by omega) ?_
    refine Ev.succ ?_
    simp only [entries_TermAt.j0, if_true]
    exact Ev.now _
theorem ref08_SameEntries_l (l : List S33) (hl : l.length < 4398046511104) (m n : Nat) (hn : n + m = l.length) :
    Ev (fun k => rialtoref08_SameEntries.l0 k l l (n : Int)) true := by
  induction m generalizing n with
  | zero =>
    refine Ev.succ ?_
    simp only [rialtoref08_SameEntries.l0]
    refine Ev.neg (by omega) ?_
    exact Ev.now _
  | succ m ih =>
    refine Ev.succ ?_
    simp only [rialtoref08_SameEntries.l0]
    refine Ev.pos (by omega) ?_
    refine Ev.pos (by omega) ?_
    refine Ev.pos (by omega) ?_
    refine Ev.neg (by simp) ?_
    rw [w64 _ (by omega) (by omega)]
    exact ih (n + 1) (by omega)
theorem ref08_SameEntries_ev (l : List S33) (hl : l.length < 4398046511104) : Ev (fun k => rialtoref08_SameEntries.f k l l) true := by
  have := ref08_SameEntries_l l hl l.length 0 (by omega)
  simpa [rialtoref08_SameEntries.f] using this
theorem ref08_Same_ev (b0 b1 : Int) (l : List S33) (c : Int) (hl : l.length < 4398046511104) : Ev (fun k => rialtoref08_Same.f k b0 b1 l c b0 b1 l c) true := by
  unfold rialtoref08_Same.f
  refine Ev.pos (by simp) ?_
  refine Ev.pos rfl ?_
  exact Ev.bind (ref08_SameEntries_ev l hl) (Ev.now _)
theorem ref08_Copy_eq (b0 b1 : Int) (l : List S33) (c : Int) (hl : l.length < 4398046511104) : rialtoref08_Copy.f b0 b1 l c = some (b0, b1, l, c) := by
  unfold rialtoref08_Copy.f
  rw [if_pos (by simp; omega)]; simp
theorem slicesClone_Entry_eq (l : List S33) (hl : l.length < 4398046511104) : slicesClone_Entry.f l = some l := by
  unfold slicesClone_Entry.f; rw [if_pos (by omega)]
end Go.Proofs.Ytiebeiloooblpaa.Pure
end
section
-- written by myprint.py, a program of this session over the kit's print.py
namespace Go.Proofs.Ytiebeiloooblpaa.E
open Go.RowKit Go.Proofs.YtiebeiloooblpaaW.PrintWords Go.Proofs.YtiebeiloooblpaaW.PrintLast Go.Proofs.YtiebeiloooblpaaW.PrintMore
attribute [local go_sem] max2_int min2_int max_two min_two max_three min_three max_four min_four   -- for this text's walks alone
set_option linter.unusedVariables false
set_option linter.unusedSimpArgs false

/-! ### entries_From: function 29 -/
end Go.Proofs.Ytiebeiloooblpaa.E
end
section
-- written by myprint.py, a program of this session over the kit's print.py
namespace Go.Proofs.Ytiebeiloooblpaa.E
open Go.RowKit Go.Proofs.YtiebeiloooblpaaW.PrintWords Go.Proofs.YtiebeiloooblpaaW.PrintLast Go.Proofs.YtiebeiloooblpaaW.PrintMore
attribute [local go_sem] max2_int min2_int max_two min_two max_three min_three max_four min_four   -- for this text's walks alone
set_option linter.unusedVariables false
set_option linter.unusedSimpArgs false

/-! ### rialtoref08_From: function 34 -/
end Go.Proofs.Ytiebeiloooblpaa.E
end
section
namespace Go.Proofs.Ytiebeiloooblpaa.Pure
open Go.RowKit Go.Proofs.Ytiebeiloooblpaa.E Go.Proofs.YtiebeiloooblpaaW.PrintWords Go.Proofs.YtiebeiloooblpaaW.PrintLast Go.Proofs.YtiebeiloooblpaaW.PrintMore Go.Proofs.YtiebeiloooblpaaEV
-- the plain law of layer 8: the last mark, entries from an index on
def lastV (b0 b1 : Int) (l : List S33) (c : Int) : Int × Int := if chk b0 b1 l c = true then (b0 + l.length, (termAt b0 b1 l c (b0 + l.length)).1) else (0, 0)
theorem entries_Last_ev (b0 b1 : Int) (l : List S33) (c : Int) (hl : l.length < 4398046511104) : Ev (fun k => entries_Last.f k b0 b1 l c) (lastV b0 b1 l c) := by
  unfold entries_Last.f lastV
  refine Ev.bind (entries_Check_ev b0 b1 l c hl) ?_
  by_cases h1 : chk b0 b1 l c = true
  · obtain ⟨hm, hn, hr, he, hc⟩ := chk_of h1
    simp only [h1, if_true, entries_end.f, Option.bind_some]
    rw [w64 _ (by omega) (by omega)]
    exact Ev.bind (entries_TermAt_ev b0 b1 l c _ hl) (Ev.now _)
  · simp only [Bool.eq_false_iff.mpr h1, Bool.false_eq_true, if_false]
    exact Ev.neg (by omega) (Ev.now _)
theorem ref08_Last_ev (b0 b1 : Int) (l : List S33) (c : Int) (hl : l.length < 4398046511104) : Ev (fun k => rialtoref08_Last.f k b0 b1 l c) (lastV b0 b1 l c) := by
  unfold rialtoref08_Last.f lastV
  refine Ev.bind (ref08_Check_ev b0 b1 l c hl) ?_
  by_cases h1 : chk b0 b1 l c = true
  · obtain ⟨hm, hn, hr, he, hc⟩ := chk_of h1
    simp only [h1, if_true, rialtoref08_end.f, Option.bind_some]
    rw [w64 (b0 + (l.length : Int)) (by omega) (by omega)]
    have ht : termAt b0 b1 l c (b0 + (l.length : Int)) = if b0 + (l.length : Int) = b0 then (b1, true) else ((l.getD (b0 + (l.length : Int) - b0 - 1).toNat z33).f0, true) := by
      unfold termAt
      rw [if_pos ⟨h1, by omega, by omega⟩]
    rw [ht]
    by_cases h0 : (l.length : Int) = 0
    · refine Ev.eqv (Ev.pos h0 (Ev.now _)) ?_
      rw [if_pos (by omega)]; simp [h0]
    · refine Ev.neg h0 ?_
      rw [w64 ((l.length : Int) - 1) (by omega) (by omega)]
      refine Ev.eqv (Ev.pos (by omega) (Ev.pos (by omega) (Ev.now _))) ?_
      rw [if_neg (by omega)]
      have e : (b0 + (l.length : Int) - b0 - 1).toNat = ((l.length : Int) - 1).toNat := by omega
      simp only [rd_T33, e]
  · simp only [Bool.eq_false_iff.mpr h1, Bool.false_eq_true, if_false]
    exact Ev.neg (by omega) (Ev.now _)
theorem spoil_l (d : Nat) : ∀ (l : List S33) (i : Nat), l.length < 4398046511104 → i + d = l.length → ∃ q, Ev (fun k => rialtolaw08_spoil.l0 k l (i : Int)) q := by
  induction d with
  | zero =>
    intro l i hl hi
    refine ⟨l, Ev.succ ?_⟩
    simp only [rialtolaw08_spoil.l0]
    exact Ev.neg (by omega) (Ev.now _)
  | succ d ih =>
    intro l i hl hi
    obtain ⟨q, hq⟩ := ih (l.set i (⟨(rd_T33 l i).f0, (rd_T33 l i).f1, (⟨#[119, 114, 105, 116, 116, 101, 110]⟩ : ByteArray)⟩ : S33)) (i + 1) (by simpa using hl) (by simp; omega)
    refine ⟨q, Ev.succ ?_⟩
    simp only [rialtolaw08_spoil.l0]
    refine Ev.pos (by omega) (Ev.pos (by omega) ?_)
    rw [w64 _ (by omega) (by omega)]
    exact hq
theorem spoil_ev (l : List S33) (hl : l.length < 4398046511104) : ∃ q, Ev (fun k => rialtolaw08_spoil.f k l) q := spoil_l l.length l 0 hl (by omega)
theorem live8_ev : Ev (fun k => rialtolaw08_live.f k) true := Ev.of (k := 30) (fun k => rialtolaw08_live.mono k) (by kernel_rfl)
end Go.Proofs.Ytiebeiloooblpaa.Pure
end
section
namespace Go.Proofs.Ytiebeiloooblpaa.Pure
open Go.RowKit Go.Proofs.Ytiebeiloooblpaa.E Go.Proofs.YtiebeiloooblpaaW.PrintWords Go.Proofs.YtiebeiloooblpaaW.PrintLast Go.Proofs.YtiebeiloooblpaaW.PrintMore Go.Proofs.YtiebeiloooblpaaEV
def addV (b0 b1 : Int) (l : List S33) (c e0 e1 : Int) (e2 : ByteArray) : Int × Int × List S33 × Int × Int :=
  if chk b0 b1 l c = true ∧ entries_isEntry.p e0 e1 e2 = true ∧ ¬ e0 < (lastV b0 b1 l c).2 then (if (l.length : Int) = 400 ∨ b0 + (l.length : Int) = 1000000 then (0, 0, [], 0, 2) else (b0, b1, l ++ [⟨e0, e1, e2⟩], c, 0)) else (0, 0, [], 0, 80)
theorem add_j0 (b0 b1 : Int) (l : List S33) (c e0 e1 : Int) (e2 : ByteArray) (b : Bool) (h1 : chk b0 b1 l c = true ∨ b = true) : Ev (fun k => entries_Add.j0 k b b0 b1 l c e0 e1 e2) (if b = true then (0, 0, [], 0, 80) else if (l.length : Int) = 400 ∨ b0 + (l.length : Int) = 1000000 then (0, 0, [], 0, 2) else (b0, b1, l ++ [⟨e0, e1, e2⟩], c, 0)) := by
  refine Ev.succ ?_
  simp only [entries_Add.j0]
  cases b with
  | true => exact Ev.now _
  | false =>
    obtain ⟨hm, hn, hr, he, hc⟩ := chk_of (h1.resolve_right (by simp))
    simp only [Bool.false_eq_true, if_false, entries_end.f, Option.bind_some]
    rw [w64 (b0 + (l.length : Int)) (by omega) (by omega), slicesClone_Entry_eq l (by omega)]
    by_cases h2 : (l.length : Int) = 400
    · exact Ev.eqv (Ev.pos h2 (Ev.now _)) (if_pos (.inl h2)).symm
    · by_cases h3 : b0 + (l.length : Int) = 1000000
      · exact Ev.eqv (Ev.neg h2 (Ev.pos h3 (Ev.now _))) (if_pos (.inr h3)).symm
      · refine Ev.eqv (Ev.neg h2 (Ev.neg h3 (Ev.bind (Ev.now _) (Ev.pos (by simp; omega) (Ev.now _))))) (if_neg (by omega)).symm
theorem ref_add_j0 (b0 b1 : Int) (l : List S33) (c e0 e1 : Int) (e2 : ByteArray) (b : Bool) (h1 : chk b0 b1 l c = true ∨ b = true) : Ev (fun k => rialtoref08_Add.j0 k b b0 b1 l c e0 e1 e2) (if b = true then (0, 0, [], 0, 80) else if (l.length : Int) = 400 ∨ b0 + (l.length : Int) = 1000000 then (0, 0, [], 0, 2) else (b0, b1, l ++ [⟨e0, e1, e2⟩], c, 0)) := by
  refine Ev.succ ?_
  simp only [rialtoref08_Add.j0]
  cases b with
  | true => exact Ev.now _
  | false =>
    obtain ⟨hm, hn, hr, he, hc⟩ := chk_of (h1.resolve_right (by simp))
    simp only [Bool.false_eq_true, if_false, rialtoref08_end.f, Option.bind_some]
    rw [w64 (b0 + (l.length : Int)) (by omega) (by omega), ref08_Copy_eq b0 b1 l c (by omega)]
    by_cases h2 : (l.length : Int) = 400
    · exact Ev.eqv (Ev.pos h2 (Ev.now _)) (if_pos (.inl h2)).symm
    · by_cases h3 : b0 + (l.length : Int) = 1000000
      · exact Ev.eqv (Ev.neg h2 (Ev.pos h3 (Ev.now _))) (if_pos (.inr h3)).symm
      · refine Ev.eqv (Ev.neg h2 (Ev.neg h3 (Ev.bind (Ev.now _) (Ev.pos (by simp; omega) (Ev.now _))))) (if_neg (by omega)).symm
theorem addV_eq (b0 b1 : Int) (l : List S33) (c e0 e1 : Int) (e2 : ByteArray) (b : Bool) (h : b = true ↔ ¬ (chk b0 b1 l c = true ∧ entries_isEntry.p e0 e1 e2 = true ∧ ¬ e0 < (lastV b0 b1 l c).2)) :
    (if b = true then (0, 0, [], 0, 80) else if (l.length : Int) = 400 ∨ b0 + (l.length : Int) = 1000000 then (0, 0, [], 0, 2) else (b0, b1, l ++ [⟨e0, e1, e2⟩], c, 0)) = addV b0 b1 l c e0 e1 e2 := by
  unfold addV
  by_cases hb : b = true
  · rw [if_pos hb, if_neg (h.1 hb)]
  · rw [if_neg hb, if_pos (Classical.not_not.1 (fun g => hb (h.2 g)))]
theorem entries_Add_ev (b0 b1 : Int) (l : List S33) (c e0 e1 : Int) (e2 : ByteArray) (hl : l.length < 4398046511104) : Ev (fun k => entries_Add.f k b0 b1 l c e0 e1 e2) (addV b0 b1 l c e0 e1 e2) := by
  unfold entries_Add.f
  refine Ev.bind (entries_Check_ev b0 b1 l c hl) ?_
  by_cases h1 : chk b0 b1 l c = true
  · simp only [h1, if_true, entries_isEntry.f, Option.bind_some]
    by_cases h2 : entries_isEntry.p e0 e1 e2 = true
    · simp only [h2, if_true]
      refine Ev.bind (entries_Last_ev b0 b1 l c hl) ?_
      refine Ev.eqv (add_j0 b0 b1 l c e0 e1 e2 _ (.inl h1)) (addV_eq _ _ _ _ _ _ _ _ ?_)
      simp [h1, h2]
    · simp only [Bool.eq_false_iff.mpr h2, Bool.false_eq_true, if_false]
      refine Ev.eqv (add_j0 b0 b1 l c e0 e1 e2 _ (.inl h1)) (addV_eq _ _ _ _ _ _ _ _ ?_)
      simp [h2]
  · simp only [Bool.eq_false_iff.mpr h1, Bool.false_eq_true, if_false]
    refine Ev.neg (by omega) ?_
    refine Ev.eqv (add_j0 b0 b1 l c e0 e1 e2 _ (.inr rfl)) (addV_eq _ _ _ _ _ _ _ _ ?_)
    simp [h1]
theorem ref08_Add_ev (b0 b1 : Int) (l : List S33) (c e0 e1 : Int) (e2 : ByteArray) (hl : l.length < 4398046511104) : Ev (fun k => rialtoref08_Add.f k b0 b1 l c e0 e1 e2) (addV b0 b1 l c e0 e1 e2) := by
  unfold rialtoref08_Add.f
  refine Ev.bind (ref08_Check_ev b0 b1 l c hl) ?_
  by_cases h1 : chk b0 b1 l c = true
  · simp only [h1, if_true, ref08_Entry_eq, Option.bind_some]
    by_cases h2 : entries_isEntry.p e0 e1 e2 = true
    · simp only [h2, if_true]
      refine Ev.bind (ref08_Last_ev b0 b1 l c hl) ?_
      refine Ev.eqv (ref_add_j0 b0 b1 l c e0 e1 e2 _ (.inl h1)) (addV_eq _ _ _ _ _ _ _ _ ?_)
      simp [h1, h2]
    · simp only [Bool.eq_false_iff.mpr h2, Bool.false_eq_true, if_false]
      refine Ev.eqv (ref_add_j0 b0 b1 l c e0 e1 e2 _ (.inl h1)) (addV_eq _ _ _ _ _ _ _ _ ?_)
      simp [h2]
  · simp only [Bool.eq_false_iff.mpr h1, Bool.false_eq_true, if_false]
    refine Ev.neg (by omega) ?_
    refine Ev.eqv (ref_add_j0 b0 b1 l c e0 e1 e2 _ (.inr rfl)) (addV_eq _ _ _ _ _ _ _ _ ?_)
    simp [h1]
theorem EntriesAdd : rialtolaw08_EntriesAdd.Pure := by
  intro b0 b1 l c e0 e1 e2 hb0 hb1 hl hc he0 he1 he2
  have hn : l.length < 4398046511104 := by have := hl.1; omega
  refine Ev.rounds ?_
  unfold rialtolaw08_EntriesAdd.f
  rw [ref08_Copy_eq b0 b1 l c hn]
  refine Ev.bind (Ev.now _) (Ev.bind (entries_Add_ev b0 b1 l c e0 e1 e2 hn) (Ev.bind (ref08_Add_ev b0 b1 l c e0 e1 e2 hn) ?_))
  have hlen : (addV b0 b1 l c e0 e1 e2).2.2.1.length < 4398046511104 := by
    unfold addV; split
    · rename_i h
      obtain ⟨hm, hn, hr, he, hc⟩ := chk_of h.1
      split
      · simp
      · simp; omega
    · simp
  refine Ev.bind (ref08_Same_ev _ _ _ _ hlen) (Ev.pos rfl (Ev.pos rfl (Ev.bind (ref08_Same_ev b0 b1 l c hn) (Ev.succ ?_))))
  simp only [rialtolaw08_EntriesAdd.j0]
  obtain ⟨q, hq⟩ := spoil_ev _ hlen
  exact Ev.neg (by simp) (Ev.bind hq (Ev.bind (ref08_Same_ev b0 b1 l c hn) (Ev.pos rfl (Ev.bind live8_ev (Ev.now _)))))

end Go.Proofs.Ytiebeiloooblpaa.Pure
end
section
/- Helper lemmas of this session: an argument that reads as data, opened to plain values, whatever its type's depth; and what its size says. -/
namespace Go.Proofs.YtiebeiloooblpaaO
open Go.RowKit Go.Proofs.YtiebeiloooblpaaW.PrintWords Go.Deep

/-- What a bound on a reading says of its slices' lengths (S) and its strings' (T), at every depth. -/
structure Sizes (P : Program) (Bd : (H : Type) → TypeId → DataW H → Prop) (S : TypeId → Nat → Prop) (T : Nat → Prop) : Prop where
  slice : ∀ (H : Type) (t e : TypeId) (es sp : List (DataW H)), P.underlying t = some (.slice e) → Bd H t (.slice es sp) → S e es.length ∧ ∀ d ∈ es, Bd H e d
  zero : ∀ e, S e 0
  string : ∀ (H : Type) (t : TypeId) (bs : List UInt8), Bd H t (.lit (.string bs)) → T bs.length
  struct : ∀ (H : Type) (t : TypeId) (fs : Array Field) (ps : List (DataW H)), P.underlying t = some (.struct fs) → Bd H t (.agg ps) → ∀ (i : Nat) (f : Field) (p : DataW H), fs[i]? = some f → ps[i]? = some p → Bd H f.type p

/-- Values of type t read as d's; G: what is known of them. -/
structure Opens {α : Type} (P : Program) (Bd : (H : Type) → TypeId → DataW H → Prop) (t : TypeId) (d : Kd α) (G : α → Prop) : Prop where
  go : ∀ (H : Type) (enc : TypeId × Value → H) (w : World) (base : Nat) (spare : Nat → Bool) (held : Bool) (fuel : Nat) (cs : List Value) (x : DataW H × List MemPlace),
    DataW.trod enc P w base spare held fuel t cs = some x → Bd H t x.1 → ∃ v, d.K w v cs ∧ G v

theorem add_add' (a : Addr) (i j : Nat) : (a.add i).add j = a.add (i + j) := by
  unfold Addr.add
  by_cases h1 : i = 0 <;> by_cases h2 : j = 0 <;> simp [h1, h2, Nat.add_assoc]
theorem listOf {α : Type} {Q : Nat → α → Prop} : ∀ n, (∀ i, i < n → ∃ v, Q i v) → ∃ xs : List α, xs.length = n ∧ ∀ i p, xs[i]? = some p → Q i p
  | 0, _ => ⟨[], rfl, fun i p h => by simp at h⟩
  | n + 1, h => by
    obtain ⟨xs, hl, hx⟩ := listOf n (fun i hi => h i (by omega))
    obtain ⟨v, hv⟩ := h n (Nat.lt_succ_self n)
    refine ⟨xs ++ [v], by simp [hl], fun i p hp => ?_⟩
    rcases Nat.lt_or_ge i xs.length with hi | hi
    · rw [List.getElem?_append_left hi] at hp
      exact hx i p hp
    · have hlt := (List.getElem?_eq_some_iff.1 hp).1
      rw [List.length_append, List.length_singleton] at hlt
      obtain rfl : i = n := by omega
      rw [List.getElem?_append_right hi] at hp
      simp [hl] at hp
      subst hp
      exact hv

section
variable {P : Program} {Bd : (H : Type) → TypeId → DataW H → Prop} {S : TypeId → Nat → Prop} {T : Nat → Prop}

theorem Opens.int {t : TypeId} {k : IntKind} (ht : P.underlying t = some (.int k)) : Opens P Bd t (Kd.int k) (fun n => (Lit.int k n).wf = true) where
  go H enc w base spare held fuel cs x h hb := by
    obtain ⟨n, rfl, _, hw⟩ := DataW.trod_int ht h
    exact ⟨n, rfl, hw⟩
theorem Opens.string (Z : Sizes P Bd S T) {t : TypeId} (ht : P.underlying t = some .string) : Opens P Bd t Kd.string (fun s => T s.size) where
  go H enc w base spare held fuel cs x h hb := by
    obtain ⟨s, rfl, rfl, _⟩ := DataW.trod_string ht h
    have h1 := Z.string H t _ hb
    rw [Array.length_toList] at h1
    exact ⟨s, rfl, h1⟩
theorem Opens.iso {α β : Type} {d : Kd α} {G : α → Prop} {t : TypeId} (f : β → α) (g : α → β) (hfg : ∀ y, f (g y) = y) (O : Opens P Bd t d G) : Opens P Bd t (Kd.iso d f) (fun x => G (f x)) where
  go H enc w base spare held fuel cs x h hb := by
    obtain ⟨v, hK, hG⟩ := O.go H enc w base spare held fuel cs x h hb
    exact ⟨g v, by show d.K w (f (g v)) cs; rw [hfg]; exact hK, by show G (f (g v)); rw [hfg]; exact hG⟩
theorem Opens.bool {t : TypeId} (ht : P.underlying t = some .bool) : Opens P Bd t Kd.bool (fun _ => True) where
  go H enc w base spare held fuel cs x h hb := by
    cases fuel with
    | zero => simp [DataW.trod] at h
    | succ n =>
      unfold DataW.trod at h
      rw [ht] at h
      split at h <;> first | exact ⟨_, rfl, trivial⟩ | simp_all
theorem Opens.slice (Z : Sizes P Bd S T) {α : Type} {d : Kd α} {G : α → Prop} {t e : TypeId} {S' : Nat → Prop} (hS : ∀ n, S e n → S' n) (ht : P.underlying t = some (.slice e)) (hs : P.cellsOf e = d.sz) (O : Opens P Bd e d G) :
    Opens P Bd t (Kd.slice e d) (fun xs => S' xs.length ∧ ∀ x ∈ xs, G x) where
  go H enc w base spare held fuel cs x h hb := by
    rcases open_slice ht h with ⟨rfl, rfl⟩ | ⟨a, len, cap, m, n, D, Pl, rfl, _, hl, hm, hmm, rfl, hi⟩
    · exact ⟨[], ⟨none, 0, rfl, Nat.le_refl _, Kd.C_nil d w⟩, hS _ (Z.zero e), fun x h => by cases h⟩
    · have hlm : len ≤ m := by rw [hmm]; split <;> omega
      obtain ⟨h1, h2⟩ := Z.slice H t e _ _ ht hb
      rw [List.length_map, List.length_range] at h1
      replace h1 := hS _ h1
      have hel : ∀ i, i < len → ∃ v cs', d.K w v cs' ∧ G v ∧ (∀ j u, cs'[j]? = some u → w.cell? (a.add (i * d.sz + j)) = some u) := by
        intro i hil
        obtain ⟨cs', hc, htr⟩ := hi i (by omega)
        rw [hs] at hc
        obtain ⟨_, hcl, hat⟩ := World.cells?_some hc
        obtain ⟨v, hK, hG⟩ := O.go H enc w base spare held n cs' _ htr (h2 _ (List.mem_map.2 ⟨i, List.mem_range.2 hil, rfl⟩))
        refine ⟨v, cs', hK, hG, fun j u hu => ?_⟩
        have hj : j < d.sz := by rw [← hcl]; exact (List.getElem?_eq_some_iff.1 hu).1
        rw [← add_add', hat j hj, hu]
      obtain ⟨xs, hxl, hx⟩ := listOf len hel
      refine ⟨xs, ⟨some a, cap, by rw [hxl], by rw [hxl]; exact hl, ⟨rfl, by rw [hxl]; simp only [maxLen] at hm; omega, fun hp => ⟨a, rfl, fun j p hj => ?_⟩⟩⟩, by rw [hxl]; exact h1, fun x hxm => ?_⟩
      · obtain ⟨cs', hK, _, hc⟩ := hx j p hj
        exact ⟨cs', d.K_len hK, hK, hc⟩
      · obtain ⟨i, hi⟩ := List.mem_iff_getElem?.1 hxm
        obtain ⟨_, _, hG, _⟩ := hx i x hi
        exact hG

/-- The fields of a struct, from one on. -/
structure OpensFs {α : Type} (P : Program) (Bd : (H : Type) → TypeId → DataW H → Prop) (fs : List Field) (off : Nat) (d : Kd α) (G : α → Prop) : Prop where
  go : ∀ (H : Type) (enc : TypeId × Value → H) (w : World) (base : Nat) (spare : Nat → Bool) (held : Bool) (n : Nat) (cs : List Value) (xs : List (DataW H × List MemPlace)),
    xs.length = fs.length → (∀ (i : Nat) (f : Field), fs[i]? = some f → DataW.trod enc P w base spare held n f.type ((cs.drop f.offset).take (P.cellsOf f.type)) = xs[i]?) → cs.length = off + d.sz →
    (∀ (i : Nat) (f : Field) (p : DataW H × List MemPlace), fs[i]? = some f → xs[i]? = some p → Bd H f.type p.1) → ∃ v, d.K w v (cs.drop off) ∧ G v
theorem OpensFs.one {α : Type} {d : Kd α} {G : α → Prop} {f : Field} {off : Nat} (ho : f.offset = off) (hs : P.cellsOf f.type = d.sz) (O : Opens P Bd f.type d G) : OpensFs P Bd [f] off d G where
  go H enc w base spare held n cs xs hl ht hc hb := by
    obtain ⟨x, rfl⟩ : ∃ x, xs = [x] := List.length_eq_one_iff.1 hl
    have h1 := ht 0 f rfl
    have h2 := hb 0 f x rfl rfl
    rw [ho, hs, List.take_of_length_le (by rw [List.length_drop]; omega)] at h1
    exact O.go H enc w base spare held n _ x (by simpa using h1) h2
theorem OpensFs.cons {α β : Type} {a : Kd α} {b : Kd β} {G : α → Prop} {G' : β → Prop} {f : Field} {fs : List Field} {off : Nat} (ho : f.offset = off) (hs : P.cellsOf f.type = a.sz) (O : Opens P Bd f.type a G)
    (O' : OpensFs P Bd fs (off + a.sz) b G') : OpensFs P Bd (f :: fs) off (Kd.pair a b) (fun v => G v.1 ∧ G' v.2) where
  go H enc w base spare held n cs xs hl ht hc hb := by
    obtain ⟨x, xs, rfl⟩ : ∃ x r, xs = x :: r := by
      cases xs with
      | nil => simp at hl
      | cons x r => exact ⟨x, r, rfl⟩
    have h1 := ht 0 f rfl
    have h2 := hb 0 f x rfl rfl
    rw [ho, hs] at h1
    have hsz : (Kd.pair a b).sz = a.sz + b.sz := rfl
    obtain ⟨v, hv, hg⟩ := O.go H enc w base spare held n _ x (by simpa using h1) h2
    obtain ⟨u, hu, hg'⟩ := O'.go H enc w base spare held n cs xs (by simpa using hl) (fun i f' hf => by simpa using ht (i + 1) f' (by simpa using hf)) (by rw [hc, hsz]; omega) (fun i f' p hf hp => hb (i + 1) f' p (by simpa using hf) (by simpa using hp))
    refine ⟨(v, u), ⟨_, _, ?_, hv, hu⟩, hg, hg'⟩
    rw [← List.drop_drop, List.take_append_drop]
theorem Opens.struct (Z : Sizes P Bd S T) {α : Type} {d : Kd α} {G : α → Prop} {t : TypeId} {fs : Array Field} (ht : P.underlying t = some (.struct fs)) (hs : P.cellsOf t = d.sz) (O : OpensFs P Bd fs.toList 0 d G) : Opens P Bd t d G where
  go H enc w base spare held fuel cs x h hb := by
    obtain ⟨xs, n, _, rfl, hlen, hxl, hf⟩ := DataW.trod_struct ht h
    have h1 := O.go H enc w base spare held n cs xs (by simpa using hxl) (fun i f hi => hf i f (by simpa using hi)) (by rw [hlen, hs]; omega) (fun i f p hi hp => Z.struct H t fs _ ht hb i f p.1 (by simpa using hi) (by rw [List.getElem?_map, hp]; rfl))
    simpa using h1

end

/-- By the form's own reach. -/
def BdReach (P : Program) (H : Type) (t : TypeId) (d : DataW H) : Prop := ∀ n ∈ d.weights P t, n ≤ reachBytes
theorem weightsAll_mem {H : Type} {P : Program} {e : TypeId} {l : List (DataW H)} {d : DataW H} (h : d ∈ l) : ∀ n ∈ d.weights P e, n ∈ DataW.weightsAll P e l := by
  induction l with
  | nil => cases h
  | cons y r ih =>
    intro n hn
    rw [DataW.weightsAll]
    rcases List.mem_cons.1 h with rfl | h
    · exact List.mem_append_left _ hn
    · exact List.mem_append_right _ (ih h n hn)
theorem weightsEach_mem {H : Type} {P : Program} : ∀ {ts : List TypeId} {l : List (DataW H)} {i : Nat} {t : TypeId} {d : DataW H}, ts[i]? = some t → l[i]? = some d → ∀ n ∈ d.weights P t, n ∈ DataW.weightsEach P ts l
  | [], _, _, _, _, h, _, _, _ => by simp at h
  | _ :: _, [], _, _, _, _, h, _, _ => by simp at h
  | t0 :: ts, d0 :: l, 0, t, d, h, h', n, hn => by
    simp at h h'
    subst h
    subst h'
    rw [DataW.weightsEach]
    exact List.mem_append_left _ hn
  | t0 :: ts, d0 :: l, i + 1, t, d, h, h', n, hn => by
    rw [DataW.weightsEach]
    exact List.mem_append_right _ (weightsEach_mem (i := i) (by simpa using h) (by simpa using h') n hn)
theorem sizesReach (P : Program) : Sizes P (BdReach P) (fun e n => n * P.bytesOf e ≤ reachBytes) (fun n => n ≤ reachBytes) where
  slice H t e es sp ht h := by
    unfold BdReach at h
    rw [DataW.weights, ht] at h
    refine ⟨?_, fun d hd n hn => h n (List.mem_cons_of_mem _ (List.mem_append_left _ (weightsAll_mem hd n hn)))⟩
    have h1 := h _ List.mem_cons_self
    exact Nat.le_trans (Nat.mul_le_mul_right _ (Nat.le_add_right _ _)) h1
  zero e := by simp
  string H t bs h := h _ (by simp [DataW.weights])
  struct H t fs ps ht h i f p hf hp := by
    unfold BdReach at h
    rw [DataW.weights, ht] at h
    intro n hn
    exact h n (weightsEach_mem (i := i) (by rw [List.getElem?_map]; simp [hf]) hp n hn)

theorem reach_arg {H : Type} {P : Program} {ts : List TypeId} {l : List (DataW H)} (hk : (DataW.weightsEach P ts l).all (· ≤ reachBytes) = true) {i : Nat} {t : TypeId} {d : DataW H} (ht : ts[i]? = some t) (hd : l[i]? = some d) : BdReach P H t d := by
  intro n hn
  have h := List.all_eq_true.1 hk n (weightsEach_mem ht hd n hn)
  exact of_decide_eq_true h
end Go.Proofs.YtiebeiloooblpaaO
end
