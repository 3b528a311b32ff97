/- Part 6 of the proof of SnapInstalls: the texts that it needs, put together by a program of this session. -/
import Derived.ChangeArms
import Derived.Deep.Slices
import Derived.ProofKit
import Derived.RowKit
import Derived.Test.YtiebeiloooblpaaRows
import Derived.Test.YtiebeiloooblpaaMSnapInstalls5
section
-- written by myprint.py, a program of this session over the kit's print.py
namespace Go.Proofs.Ytiebeiloooblpaa.E
open Go.RowKit Go.Proofs.YtiebeiloooblpaaW.PrintWords Go.Proofs.YtiebeiloooblpaaW.PrintLast Go.Proofs.YtiebeiloooblpaaW.PrintMore
attribute [local go_sem] max2_int min2_int max_two min_two max_three min_three max_four min_four   -- for this text's walks alone
set_option linter.unusedVariables false
set_option linter.unusedSimpArgs false

/-! ### rialtoref09_Install: function 19 -/
def rialtoref09_Install.j0 : Nat → Bool → Int → Int → List (S33) → Int → Int → Int → Option (Int × Int × (List (S33)) × Int × Bool × Int)
  | 0, _, _, _, _, _, _, _ => none
  | k + 1, x21, x217000, x217001, x217002, x217003, x218000, x218001 => if x21 = true then (some (0, 0, ([] : List (S33)), 0, false, 1)) else (if x218000 ≤ x217003 then ((rialtoref08_Copy.f x217000 x217001 x217002 x217003).bind fun bt221 => (some (bt221.1, bt221.2.1, bt221.2.2.1, bt221.2.2.2, false, 0))) else ((rialtoref08_TermAt.f k x217000 x217001 x217002 x217003 x218000).bind fun bt228 => (if bt228.2 = true then (if bt228.1 = x218001 then ((rialtoref09_behind.f x217000 x217001 x217002 x217003 x218000).bind fun t230 => (some (x218000, x218001, t230, x218000, true, 0))) else (some (x218000, x218001, ([] : List (S33)), x218000, true, 0))) else (some (x218000, x218001, ([] : List (S33)), x218000, true, 0)))))
def rialtoref09_Install.f (k : Nat) (a0_0 : Int) (a0_1 : Int) (l0_2 : List (S33)) (a0_3 : Int) (a1_0 : Int) (a1_1 : Int) : Option (Int × Int × (List (S33)) × Int × Bool × Int) := (rialtoref08_Check.f k a0_0 a0_1 l0_2 a0_3).bind fun t219 => (if t219 = 0 then ((rialtoref07_Mark.f a1_0 a1_1).bind fun t220 => (if t220 = true then (rialtoref09_Install.j0 k (a1_0 == 0) a0_0 a0_1 l0_2 a0_3 a1_0 a1_1) else (rialtoref09_Install.j0 k true a0_0 a0_1 l0_2 a0_3 a1_0 a1_1))) else (some (0, 0, ([] : List (S33)), 0, false, 90)))
set_option maxHeartbeats 8000000 in
set_option maxRecDepth 100000 in
theorem rialtoref09_Install.calls (k : Nat) (a0_0 : Int) (a0_1 : Int) (A0_2 : Option Addr) (c0_2 : Nat) (l0_2 : List (S33)) (a0_3 : Int) (a1_0 : Int) (a1_1 : Int) (r1 : Int) (r2 : Int) (r3 : List (S33)) (r4 : Int) (r5 : Bool) (r6 : Int) (w : World) (hr0_2 : Kd.C k33 w A0_2 l0_2.length l0_2) (hc0_2 : l0_2.length ≤ c0_2) (h : rialtoref09_Install.f k a0_0 a0_1 l0_2 a0_3 a1_0 a1_1 = some (r1, r2, r3, r4, r5, r6)) :
    Calls Try.prog 19 #[.agg #[.int .i64 a0_0, .int .i64 a0_1, .slice A0_2 l0_2.length c0_2, .int .i64 a0_3], .agg #[.int .i64 a1_0, .int .i64 a1_1]] w fun e w' => ∃ v2_ : Value, e = .returned (.tuple #[.agg #[.int .i64 r1, .int .i64 r2, v2_, .int .i64 r4], .bool r5, .int .i64 r6]) ∧ Kd.R k33 33 w' w.heap.size (fun _ => True) v2_ r3 ∧ Below w.heap.size w w' := by
  have hu26 := Try.underlying26
  have hu23 := Try.underlying23
  have HR0_2 := Aside0.mk hr0_2
  have HC0_2 := Aside0.mk hc0_2
  clear hr0_2 hc0_2
  have HB := Aside0.mk (Below.refl w.heap.size w)
  have H : ((rialtoref08_Check.f k a0_0 a0_1 l0_2 a0_3).bind fun t219 => (if t219 = 0 then ((rialtoref07_Mark.f a1_0 a1_1).bind fun t220 => (if t220 = true then (rialtoref09_Install.j0 k (a1_0 == 0) a0_0 a0_1 l0_2 a0_3 a1_0 a1_1) else (rialtoref09_Install.j0 k true a0_0 a0_1 l0_2 a0_3 a1_0 a1_1))) else (some (0, 0, ([] : List (S33)), 0, false, 90)))) = some (r1, r2, r3, r4, r5, r6) := h
  clear h
  replace H := Option.bind_eq_some_iff.mp H
  obtain ⟨t219, A30, H⟩ := H
  replace H : (if t219 = 0 then ((rialtoref07_Mark.f a1_0 a1_1).bind fun t220 => (if t220 = true then (rialtoref09_Install.j0 k (a1_0 == 0) a0_0 a0_1 l0_2 a0_3 a1_0 a1_1) else (rialtoref09_Install.j0 k true a0_0 a0_1 l0_2 a0_3 a1_0 a1_1))) else (some (0, 0, ([] : List (S33)), 0, false, 90))) = some (r1, r2, r3, r4, r5, r6) := H
  have A3 := Aside0.mk A30
  clear A30
  by_cases c4 : t219 = 0
  · rw [if_pos c4] at H
    have c4b0 : (t219 == 0) = true := beq_iff_eq.mpr c4
    have c4b1 : (t219 != 0) = false := bne_eq_false_iff_eq.mpr c4
    clear c4
    have HC5 := Aside0.mk H
    clear H
    go_enter Try.func19, Try.ntmps19
    go_upto_region 3 with (first | ((with_reducible refine gate_dst (N := 2) rfl ?_); refine box_event ?hg (N := 2) ?hd (cs := #[.int .i64 a0_0, .int .i64 a0_1, .slice A0_2 l0_2.length c0_2, .int .i64 a0_3]) (t := 26) ?hr ?_; (case hd => rfl); (case hg => rfl); (case hr => first | (go_simp; done) | (go_simp; rfl)); intro gb216 hg w6 hbox hb; have n0_ := Aside0.mk (below_step (by repeat (first | (with_reducible first | exact HB.out | apply below_alloc | apply pw_below_drewN | apply below_drew1) | exact HB.out)) hb); have n1_ := Aside0.mk (hbox); have n2_ := Aside0.mk ((by rw [hg]; exact (below_size (by repeat (first | (with_reducible first | exact HB.out | apply below_alloc | apply pw_below_drewN | apply below_drew1) | exact HB.out))) : w.heap.size ≤ gb216)); have n3_ := Aside0.mk ((by rw [hg]; exact (below_size (by repeat (first | (with_reducible first | exact HB.out | apply below_alloc | apply pw_below_drewN | apply below_drew1) | exact HB.out))) : w.heap.size ≤ gb216)); clear HB; have HB := n0_; have BK216 := n1_; have GW216 := n2_; have GE216 := n3_; clear n0_ n1_ n2_ n3_; clear hb hbox hg) | ((with_reducible refine gate_dst (N := 3) rfl ?_); refine box_event ?hg (N := 3) ?hd (cs := #[.int .i64 a1_0, .int .i64 a1_1]) (t := 23) ?hr ?_; (case hd => rfl); (case hg => rfl); (case hr => first | (go_simp; done) | (go_simp; rfl)); intro gb217 hg w7 hbox hb; have n0_ := Aside0.mk (blk_below (g := gb216) (o := .cells #[.int .i64 a0_0, .int .i64 a0_1, .slice A0_2 l0_2.length c0_2, .int .i64 a0_3] 26 (0, 0)) (by (with_reducible repeat (first | refine blk_drewN ?_ _ | refine blk_drew ?_ | refine blk_alloc ?_ _)); exact BK216.out) hb); have n1_ := Aside0.mk (below_step (by repeat (first | (with_reducible first | exact HB.out | apply below_alloc | apply pw_below_drewN | apply below_drew1 | refine below_set ?_ GE216.out) | exact HB.out)) hb); have n2_ := Aside0.mk (hbox); have n3_ := Aside0.mk ((by rw [hg]; exact (below_size (by repeat (first | (with_reducible first | exact HB.out | apply below_alloc | apply pw_below_drewN | apply below_drew1 | refine below_set ?_ GE216.out) | exact HB.out))) : w.heap.size ≤ gb217)); have n4_ := Aside0.mk ((by rw [hg]; exact (below_size (by repeat (first | (with_reducible first | exact HB.out | apply below_alloc | apply pw_below_drewN | apply below_drew1 | refine below_set ?_ GE216.out) | exact HB.out))) : w.heap.size ≤ gb217)); have n5_ := Aside0.mk ((by rw [hg]; exact Nat.ne_of_lt (blk_lt (g := gb216) (o := .cells #[.int .i64 a0_0, .int .i64 a0_1, .slice A0_2 l0_2.length c0_2, .int .i64 a0_3] 26 (0, 0)) (by (with_reducible repeat (first | refine blk_drewN ?_ _ | refine blk_drew ?_ | refine blk_alloc ?_ _)); exact BK216.out)) : gb216 ≠ gb217)); have n6_ := Aside0.mk ((by rw [hg]; exact Nat.ne_of_gt (blk_lt (g := gb216) (o := .cells #[.int .i64 a0_0, .int .i64 a0_1, .slice A0_2 l0_2.length c0_2, .int .i64 a0_3] 26 (0, 0)) (by (with_reducible repeat (first | refine blk_drewN ?_ _ | refine blk_drew ?_ | refine blk_alloc ?_ _)); exact BK216.out)) : gb217 ≠ gb216)); clear BK216; clear HB; have BK216 := n0_; have HB := n1_; have BK217 := n2_; have GW217 := n3_; have GE217 := n4_; have NB216_217 := n5_; have NB217_216 := n6_; clear n0_ n1_ n2_ n3_ n4_ n5_ n6_; clear hb hbox hg) | ((with_reducible refine gate_dst (N := 4) rfl ?_); refine box_event ?hg (N := 4) ?hd (cs := #[.int .i64 0, .int .i64 0, .slice none 0 0, .int .i64 0]) (t := 26) ?hr ?_; (case hd => rfl); (case hg => rfl); (case hr => first | (go_simp; done) | (go_simp; rfl)); intro gb218 hg w8 hbox hb; have n0_ := Aside0.mk (blk_below (g := gb216) (o := .cells #[.int .i64 a0_0, .int .i64 a0_1, .slice A0_2 l0_2.length c0_2, .int .i64 a0_3] 26 (0, 0)) (by (with_reducible repeat (first | refine blk_drewN ?_ _ | refine blk_drew ?_ | refine blk_alloc ?_ _)); exact BK216.out) hb); have n1_ := Aside0.mk (blk_below (g := gb217) (o := .cells #[.int .i64 a1_0, .int .i64 a1_1] 23 (0, 0)) (by (with_reducible repeat (first | refine blk_drewN ?_ _ | refine blk_drew ?_ | refine blk_alloc ?_ _)); exact BK217.out) hb); have n2_ := Aside0.mk (below_step (by repeat (first | (with_reducible first | exact HB.out | apply below_alloc | apply pw_below_drewN | apply below_drew1 | refine below_set ?_ GE216.out | refine below_set ?_ GE217.out) | exact HB.out)) hb); have n3_ := Aside0.mk (hbox); have n4_ := Aside0.mk ((by rw [hg]; exact (below_size (by repeat (first | (with_reducible first | exact HB.out | apply below_alloc | apply pw_below_drewN | apply below_drew1 | refine below_set ?_ GE216.out | refine below_set ?_ GE217.out) | exact HB.out))) : w.heap.size ≤ gb218)); have n5_ := Aside0.mk ((by rw [hg]; exact (below_size (by repeat (first | (with_reducible first | exact HB.out | apply below_alloc | apply pw_below_drewN | apply below_drew1 | refine below_set ?_ GE216.out | refine below_set ?_ GE217.out) | exact HB.out))) : w.heap.size ≤ gb218)); have n6_ := Aside0.mk ((by rw [hg]; exact Nat.ne_of_lt (blk_lt (g := gb216) (o := .cells #[.int .i64 a0_0, .int .i64 a0_1, .slice A0_2 l0_2.length c0_2, .int .i64 a0_3] 26 (0, 0)) (by (with_reducible repeat (first | refine blk_drewN ?_ _ | refine blk_drew ?_ | refine blk_alloc ?_ _)); exact BK216.out)) : gb216 ≠ gb218)); have n7_ := Aside0.mk ((by rw [hg]; exact Nat.ne_of_gt (blk_lt (g := gb216) (o := .cells #[.int .i64 a0_0, .int .i64 a0_1, .slice A0_2 l0_2.length c0_2, .int .i64 a0_3] 26 (0, 0)) (by (with_reducible repeat (first | refine blk_drewN ?_ _ | refine blk_drew ?_ | refine blk_alloc ?_ _)); exact BK216.out)) : gb218 ≠ gb216)); have n8_ := Aside0.mk ((by rw [hg]; exact Nat.ne_of_lt (blk_lt (g := gb217) (o := .cells #[.int .i64 a1_0, .int .i64 a1_1] 23 (0, 0)) (by (with_reducible repeat (first | refine blk_drewN ?_ _ | refine blk_drew ?_ | refine blk_alloc ?_ _)); exact BK217.out)) : gb217 ≠ gb218)); have n9_ := Aside0.mk ((by rw [hg]; exact Nat.ne_of_gt (blk_lt (g := gb217) (o := .cells #[.int .i64 a1_0, .int .i64 a1_1] 23 (0, 0)) (by (with_reducible repeat (first | refine blk_drewN ?_ _ | refine blk_drew ?_ | refine blk_alloc ?_ _)); exact BK217.out)) : gb218 ≠ gb217)); clear BK216; clear BK217; clear HB; have BK216 := n0_; have BK217 := n1_; have HB := n2_; have BK218 := n3_; have GW218 := n4_; have GE218 := n5_; have NB216_218 := n6_; have NB218_216 := n7_; have NB217_218 := n8_; have NB218_217 := n9_; clear n0_ n1_ n2_ n3_ n4_ n5_ n6_ n7_ n8_ n9_; clear hb hbox hg; have hnb9 := NB216_217.out; have hnc9 := NB217_216.out; have hnb10 := NB216_218.out; have hnc10 := NB218_216.out; have hcz11_0 : w8.cell? ⟨gb216, 0, none⟩ = some (.int .i64 a0_0) := (blk_cell BK216.out 0).trans rfl; have hcz11_1 : w8.cell? ⟨gb216, 1, none⟩ = some (.int .i64 a0_1) := (blk_cell BK216.out 1).trans rfl; have hcz11_2 : w8.cell? ⟨gb216, 2, none⟩ = some (.slice A0_2 l0_2.length c0_2) := (blk_cell BK216.out 2).trans rfl; have hcz11_3 : w8.cell? ⟨gb216, 3, none⟩ = some (.int .i64 a0_3) := (blk_cell BK216.out 3).trans rfl; have hfz11_0 := blk_frozen BK216.out 0; have hfz11_1 := blk_frozen BK216.out 1; have hfz11_2 := blk_frozen BK216.out 2; have hfz11_3 := blk_frozen BK216.out 3) | ((with_reducible refine gate_callee (f := 31) rfl ?_); refine goesL_ (some 11) rfl rfl Try.func31 (by kernel_rfl) rfl #[.agg #[.int .i64 a0_0, .int .i64 a0_1, .slice A0_2 l0_2.length c0_2, .int .i64 a0_3]] rfl (by (try simp only [List.map_toArray, List.map_cons, List.map_nil]); first | done | rfl | (simp only [List.length_drop, List.length_take]; rfl)) ?_; (with_reducible refine (rialtoref08_Check.calls k a0_0 a0_1 _ _ l0_2 a0_3 t219 _ ?side1 ?side2 A3.out).mono ?_); (case side1 => repeat (first | exact (Kd.C_below HR0_2.out HB.out) | (with_reducible refine Kd.C_alloc ?_ _) | (with_reducible refine Kd.C_drewN ?_ _) | (with_reducible refine Kd.C_drew ?_))); (case side2 => exact HC0_2.out); rintro e w12 ⟨rfl, hb⟩; refine ⟨_, rfl, ?_⟩; have n0_ := Aside0.mk (blk_below (g := gb216) (o := .cells #[.int .i64 a0_0, .int .i64 a0_1, .slice A0_2 l0_2.length c0_2, .int .i64 a0_3] 26 (0, 0)) (by (with_reducible repeat (first | refine blk_drewN ?_ _ | refine blk_drew ?_ | refine blk_alloc ?_ _)); exact BK216.out) hb); have n1_ := Aside0.mk (blk_below (g := gb217) (o := .cells #[.int .i64 a1_0, .int .i64 a1_1] 23 (0, 0)) (by (with_reducible repeat (first | refine blk_drewN ?_ _ | refine blk_drew ?_ | refine blk_alloc ?_ _)); exact BK217.out) hb); have n2_ := Aside0.mk (blk_below (g := gb218) (o := .cells #[.int .i64 0, .int .i64 0, .slice none 0 0, .int .i64 0] 26 (0, 0)) (by (with_reducible repeat (first | refine blk_drewN ?_ _ | refine blk_drew ?_ | refine blk_alloc ?_ _)); exact BK218.out) hb); have n3_ := Aside0.mk (below_step (by repeat (first | (with_reducible first | exact HB.out | apply below_alloc | apply pw_below_drewN | apply below_drew1 | refine below_set ?_ GE216.out | refine below_set ?_ GE217.out | refine below_set ?_ GE218.out) | exact HB.out)) hb); clear BK216; clear BK217; clear BK218; clear HB; have BK216 := n0_; have BK217 := n1_; have BK218 := n2_; have HB := n3_; clear n0_ n1_ n2_ n3_; (try clear hb); (try clear hb2); (try clear hk); (try clear hi)))
    (try simp only [Act.put, List.setIfInBounds_toArray, List.set_cons_zero, List.set_cons_succ])
    go_cut [21] (fun v21 wc => ∃ (kq : Nat) (x21_4 : Bool), v21 = .bool x21_4 ∧ Aside0 (rialtoref09_Install.j0 kq x21_4 a0_0 a0_1 l0_2 a0_3 a1_0 a1_1 = some (r1, r2, r3, r4, r5, r6)) ∧ Aside0 (kq ≤ k) ∧ Aside0 (wc.heap[gb216]? = some (.cells #[.int .i64 a0_0, .int .i64 a0_1, (.slice A0_2 l0_2.length c0_2), .int .i64 a0_3] 26 (0, 0))) ∧ Aside0 (wc.heap[gb217]? = some (.cells #[.int .i64 a1_0, .int .i64 a1_1] 23 (0, 0))) ∧ Aside0 (wc.heap[gb218]? = some (.cells #[.int .i64 0, .int .i64 0, (.slice none 0 0), .int .i64 0] 26 (0, 0))) ∧ Aside0 (Below w.heap.size w wc))
    case first =>
      have H := HC5.out
      clear HC5
      replace H := Option.bind_eq_some_iff.mp H
      obtain ⟨t220, A130, H⟩ := H
      replace H : (if t220 = true then (rialtoref09_Install.j0 k (a1_0 == 0) a0_0 a0_1 l0_2 a0_3 a1_0 a1_1) else (rialtoref09_Install.j0 k true a0_0 a0_1 l0_2 a0_3 a1_0 a1_1)) = some (r1, r2, r3, r4, r5, r6) := H
      have A13 := Aside0.mk A130
      clear A130
      by_cases c14 : t220 = true
      · subst c14
        have H1 : (rialtoref09_Install.j0 k (a1_0 == 0) a0_0 a0_1 l0_2 a0_3 a1_0 a1_1) = some (r1, r2, r3, r4, r5, r6) := by rw [if_pos rfl] at H; exact H
        clear H
        have H := H1
        clear H1
        have H' := Aside0.mk H
        clear H
        have hnb15 := NB217_216.out
        have hnc15 := NB216_217.out
        have hnb16 := NB217_218.out
        have hnc16 := NB218_217.out
        have hcz17_0 : w12.cell? ⟨gb217, 0, none⟩ = some (.int .i64 a1_0) := (blk_cell BK217.out 0).trans rfl
        have hcz17_1 : w12.cell? ⟨gb217, 1, none⟩ = some (.int .i64 a1_1) := (blk_cell BK217.out 1).trans rfl
        have hfz17_0 := blk_frozen BK217.out 0
        have hfz17_1 := blk_frozen BK217.out 1
        go_wp2_with (first | ((with_reducible refine gate_callee (f := 40) rfl ?_); refine goesL_ (some 15) rfl rfl Try.func40 (by kernel_rfl) rfl #[.agg #[.int .i64 a1_0, .int .i64 a1_1]] rfl (by (try simp only [List.map_toArray, List.map_cons, List.map_nil]); first | done | rfl | (simp only [List.length_drop, List.length_take]; rfl)) ?_; (with_reducible refine (rialtoref07_Mark.calls a1_0 a1_1 true _ A13.out).mono ?_); rintro e w18 ⟨rfl, hb⟩; refine ⟨_, rfl, ?_⟩; have n0_ := Aside0.mk (blk_below (g := gb216) (o := .cells #[.int .i64 a0_0, .int .i64 a0_1, .slice A0_2 l0_2.length c0_2, .int .i64 a0_3] 26 (0, 0)) (by (with_reducible repeat (first | refine blk_drewN ?_ _ | refine blk_drew ?_ | refine blk_alloc ?_ _)); exact BK216.out) hb); have n1_ := Aside0.mk (blk_below (g := gb217) (o := .cells #[.int .i64 a1_0, .int .i64 a1_1] 23 (0, 0)) (by (with_reducible repeat (first | refine blk_drewN ?_ _ | refine blk_drew ?_ | refine blk_alloc ?_ _)); exact BK217.out) hb); have n2_ := Aside0.mk (blk_below (g := gb218) (o := .cells #[.int .i64 0, .int .i64 0, .slice none 0 0, .int .i64 0] 26 (0, 0)) (by (with_reducible repeat (first | refine blk_drewN ?_ _ | refine blk_drew ?_ | refine blk_alloc ?_ _)); exact BK218.out) hb); have n3_ := Aside0.mk (below_step (by repeat (first | (with_reducible first | exact HB.out | apply below_alloc | apply pw_below_drewN | apply below_drew1 | refine below_set ?_ GE216.out | refine below_set ?_ GE217.out | refine below_set ?_ GE218.out) | exact HB.out)) hb); clear BK216; clear BK217; clear BK218; clear HB; have BK216 := n0_; have BK217 := n1_; have BK218 := n2_; have HB := n3_; clear n0_ n1_ n2_ n3_; (try clear hb); (try clear hb2); (try clear hk); (try clear hi); have hcz19_0 : w18.cell? ⟨gb217, 0, none⟩ = some (.int .i64 a1_0) := (blk_cell BK217.out 0).trans rfl; have hcz19_1 : w18.cell? ⟨gb217, 1, none⟩ = some (.int .i64 a1_1) := (blk_cell BK217.out 1).trans rfl; have hfz19_0 := blk_frozen BK217.out 0; have hfz19_1 := blk_frozen BK217.out 1))
        go_meet
        case rel => exact ⟨_, ((a1_0 == 0)), (by first | rfl | (simp; done) | (simp [*]; done)), H', ⟨by first | omega | exact Nat.le_refl _⟩, ⟨by (with_reducible repeat (first | refine blk_drewN ?_ _ | refine blk_drew ?_ | refine blk_alloc ?_ _)); exact BK216.out⟩, ⟨by (with_reducible repeat (first | refine blk_drewN ?_ _ | refine blk_drew ?_ | refine blk_alloc ?_ _)); exact BK217.out⟩, ⟨by (with_reducible repeat (first | refine blk_drewN ?_ _ | refine blk_drew ?_ | refine blk_alloc ?_ _)); exact BK218.out⟩, ⟨by repeat (first | (with_reducible first | exact HB.out | apply below_alloc | apply pw_below_drewN | apply below_drew1 | refine below_set ?_ GE216.out | refine below_set ?_ GE217.out | refine below_set ?_ GE218.out) | exact HB.out)⟩⟩
      · replace c14 := Bool.eq_false_iff.mpr c14
        subst c14
        have H1 : (rialtoref09_Install.j0 k true a0_0 a0_1 l0_2 a0_3 a1_0 a1_1) = some (r1, r2, r3, r4, r5, r6) := by rw [if_neg (show ¬ (false = true) by decide)] at H; exact H
        clear H
        have H := H1
        clear H1
        have H' := Aside0.mk H
        clear H
        have hnb20 := NB217_216.out
        have hnc20 := NB216_217.out
        have hnb21 := NB217_218.out
        have hnc21 := NB218_217.out
        have hcz22_0 : w12.cell? ⟨gb217, 0, none⟩ = some (.int .i64 a1_0) := (blk_cell BK217.out 0).trans rfl
        have hcz22_1 : w12.cell? ⟨gb217, 1, none⟩ = some (.int .i64 a1_1) := (blk_cell BK217.out 1).trans rfl
        have hfz22_0 := blk_frozen BK217.out 0
        have hfz22_1 := blk_frozen BK217.out 1
        go_wp2_with (first | ((with_reducible refine gate_callee (f := 40) rfl ?_); refine goesL_ (some 15) rfl rfl Try.func40 (by kernel_rfl) rfl #[.agg #[.int .i64 a1_0, .int .i64 a1_1]] rfl (by (try simp only [List.map_toArray, List.map_cons, List.map_nil]); first | done | rfl | (simp only [List.length_drop, List.length_take]; rfl)) ?_; (with_reducible refine (rialtoref07_Mark.calls a1_0 a1_1 false _ A13.out).mono ?_); rintro e w23 ⟨rfl, hb⟩; refine ⟨_, rfl, ?_⟩; have n0_ := Aside0.mk (blk_below (g := gb216) (o := .cells #[.int .i64 a0_0, .int .i64 a0_1, .slice A0_2 l0_2.length c0_2, .int .i64 a0_3] 26 (0, 0)) (by (with_reducible repeat (first | refine blk_drewN ?_ _ | refine blk_drew ?_ | refine blk_alloc ?_ _)); exact BK216.out) hb); have n1_ := Aside0.mk (blk_below (g := gb217) (o := .cells #[.int .i64 a1_0, .int .i64 a1_1] 23 (0, 0)) (by (with_reducible repeat (first | refine blk_drewN ?_ _ | refine blk_drew ?_ | refine blk_alloc ?_ _)); exact BK217.out) hb); have n2_ := Aside0.mk (blk_below (g := gb218) (o := .cells #[.int .i64 0, .int .i64 0, .slice none 0 0, .int .i64 0] 26 (0, 0)) (by (with_reducible repeat (first | refine blk_drewN ?_ _ | refine blk_drew ?_ | refine blk_alloc ?_ _)); exact BK218.out) hb); have n3_ := Aside0.mk (below_step (by repeat (first | (with_reducible first | exact HB.out | apply below_alloc | apply pw_below_drewN | apply below_drew1 | refine below_set ?_ GE216.out | refine below_set ?_ GE217.out | refine below_set ?_ GE218.out) | exact HB.out)) hb); clear BK216; clear BK217; clear BK218; clear HB; have BK216 := n0_; have BK217 := n1_; have BK218 := n2_; have HB := n3_; clear n0_ n1_ n2_ n3_; (try clear hb); (try clear hb2); (try clear hk); (try clear hi)))
        go_meet
        case rel => exact ⟨_, (true), (by first | rfl | (simp; done) | (simp [*]; done)), H', ⟨by first | omega | exact Nat.le_refl _⟩, ⟨by (with_reducible repeat (first | refine blk_drewN ?_ _ | refine blk_drew ?_ | refine blk_alloc ?_ _)); exact BK216.out⟩, ⟨by (with_reducible repeat (first | refine blk_drewN ?_ _ | refine blk_drew ?_ | refine blk_alloc ?_ _)); exact BK217.out⟩, ⟨by (with_reducible repeat (first | refine blk_drewN ?_ _ | refine blk_drew ?_ | refine blk_alloc ?_ _)); exact BK218.out⟩, ⟨by repeat (first | (with_reducible first | exact HB.out | apply below_alloc | apply pw_below_drewN | apply below_drew1 | refine below_set ?_ GE216.out | refine below_set ?_ GE217.out | refine below_set ?_ GE218.out) | exact HB.out)⟩⟩
    case rest =>
      clear HC5
      try clear c1
      try clear c2
      try clear p2
      try clear c3
      try clear c4
      try clear c4b0
      try clear c4b1
      try clear c9
      try clear c10
      try clear c14
      try clear c15
      try clear c16
      try clear c19
      try clear c20
      try clear c21
      try clear hcz11_0
      try clear hcz11_1
      try clear hcz11_2
      try clear hcz11_3
      try clear hcz17_0
      try clear hcz17_1
      try clear hcz19_0
      try clear hcz19_1
      try clear hcz22_0
      try clear hcz22_1
      try clear hfz11_0
      try clear hfz11_1
      try clear hfz11_2
      try clear hfz11_3
      try clear hfz17_0
      try clear hfz17_1
      try clear hfz19_0
      try clear hfz19_1
      try clear hfz22_0
      try clear hfz22_1
      obtain ⟨kq, x21_4, rfl, HA, HJ4, BK216, BK217, BK218, HB⟩ := hcut
      cases kq with
      | zero => exact absurd HA.out (by simp [rialtoref09_Install.j0])
      | succ kj4 =>
        have H := HA.out
        clear HA
        simp only [rialtoref09_Install.j0] at H
        by_cases c24 : x21_4 = true
        · subst c24
          have H1 : (some (0, 0, ([] : List (S33)), 0, false, 1)) = some (r1, r2, r3, r4, r5, r6) := by rw [if_pos rfl] at H; exact H
          clear H
          have H := H1
          clear H1
          simp only [Option.some.injEq, Prod.mk.injEq] at H
          obtain ⟨rfl, rfl, rfl, rfl, rfl, rfl⟩ := H
          have hnb25 := NB218_216.out
          have hnc25 := NB216_218.out
          have hnb26 := NB218_217.out
          have hnc26 := NB217_218.out
          have hcz27_0 : wc.cell? ⟨gb218, 0, none⟩ = some (.int .i64 0) := (blk_cell BK218.out 0).trans rfl
          have hcz27_1 : wc.cell? ⟨gb218, 1, none⟩ = some (.int .i64 0) := (blk_cell BK218.out 1).trans rfl
          have hcz27_2 : wc.cell? ⟨gb218, 2, none⟩ = some (.slice none 0 0) := (blk_cell BK218.out 2).trans rfl
          have hcz27_3 : wc.cell? ⟨gb218, 3, none⟩ = some (.int .i64 0) := (blk_cell BK218.out 3).trans rfl
          have hfz27_0 := blk_frozen BK218.out 0
          have hfz27_1 := blk_frozen BK218.out 1
          have hfz27_2 := blk_frozen BK218.out 2
          have hfz27_3 := blk_frozen BK218.out 3
          go_wp2
          refine bodyPost_ret (results_ctt rfl _ _ gb218 26 #[.int .i64 0, .int .i64 0, .slice none 0 0, .int .i64 0] (0, 0) _ rfl (by (with_reducible repeat (first | refine blk_drewN ?_ _ | refine blk_drew ?_ | refine blk_alloc ?_ _)); refine blk_put (cs := #[.int .i64 0, .int .i64 0, .slice none 0 0, .int .i64 0]) ?_ 3 _ rfl; (with_reducible repeat (first | refine blk_drewN ?_ _ | refine blk_drew ?_ | refine blk_alloc ?_ _)); refine blk_put (cs := #[.int .i64 0, .int .i64 0, .slice none 0 0, .int .i64 0]) ?_ 2 _ rfl; (with_reducible repeat (first | refine blk_drewN ?_ _ | refine blk_drew ?_ | refine blk_alloc ?_ _)); refine blk_put (cs := #[.int .i64 0, .int .i64 0, .slice none 0 0, .int .i64 0]) ?_ 1 _ rfl; (with_reducible repeat (first | refine blk_drewN ?_ _ | refine blk_drew ?_ | refine blk_alloc ?_ _)); refine blk_put (cs := #[.int .i64 0, .int .i64 0, .slice none 0 0, .int .i64 0]) ?_ 0 _ rfl; (with_reducible repeat (first | refine blk_drewN ?_ _ | refine blk_drew ?_ | refine blk_alloc ?_ _)); exact BK218.out) Try.underlying26 rfl (by kernel_rfl)) rfl ?_
          exact ⟨_, by first | rfl | (simp [errW_none, errW_some] <;> rfl) | (simp [*, errW_none, errW_some] <;> rfl), by first | exact Kd.R_nil _ _ _ _ _ | exact Kd.N_nil _ _ _ _ _ | exact Kd.V_nil _ _ _ _ _ | exact Kd.Q_nil _ _ _ _ _ | exact Kd.S_nil _ _ _ _ _, by repeat (first | (with_reducible first | exact HB.out | apply below_alloc | apply pw_below_drewN | apply below_drew1 | refine below_set ?_ GE216.out | refine below_set ?_ GE217.out | refine below_set ?_ GE218.out) | exact HB.out)⟩
        · replace c24 := Bool.eq_false_iff.mpr c24
          subst c24
          have H1 : (if a1_0 ≤ a0_3 then ((rialtoref08_Copy.f a0_0 a0_1 l0_2 a0_3).bind fun bt221 => (some (bt221.1, bt221.2.1, bt221.2.2.1, bt221.2.2.2, false, 0))) else ((rialtoref08_TermAt.f kj4 a0_0 a0_1 l0_2 a0_3 a1_0).bind fun bt228 => (if bt228.2 = true then (if bt228.1 = a1_1 then ((rialtoref09_behind.f a0_0 a0_1 l0_2 a0_3 a1_0).bind fun t230 => (some (a1_0, a1_1, t230, a1_0, true, 0))) else (some (a1_0, a1_1, ([] : List (S33)), a1_0, true, 0))) else (some (a1_0, a1_1, ([] : List (S33)), a1_0, true, 0))))) = some (r1, r2, r3, r4, r5, r6) := by rw [if_neg (show ¬ (false = true) by decide)] at H; exact H
          clear H
          have H := H1
          clear H1
          by_cases c28 : a1_0 ≤ a0_3
          · rw [if_pos c28] at H
            have c28b0 : decide (a1_0 ≤ a0_3) = true := decide_eq_true c28
            clear c28
            replace H := Option.bind_eq_some_iff.mp H
            obtain ⟨⟨t221, t222, t223, t226⟩, A290, H⟩ := H
            replace H : (some (t221, t222, t223, t226, false, 0)) = some (r1, r2, r3, r4, r5, r6) := H
            have A29 := Aside0.mk A290
            clear A290
            simp only [Option.some.injEq, Prod.mk.injEq] at H
            obtain ⟨rfl, rfl, rfl, rfl, rfl, rfl⟩ := H
            have hnb30 := NB217_216.out
            have hnc30 := NB216_217.out
            have hnb31 := NB217_218.out
            have hnc31 := NB218_217.out
            have hcz32_0 : wc.cell? ⟨gb217, 0, none⟩ = some (.int .i64 a1_0) := (blk_cell BK217.out 0).trans rfl
            have hcz32_1 : wc.cell? ⟨gb217, 1, none⟩ = some (.int .i64 a1_1) := (blk_cell BK217.out 1).trans rfl
            have hfz32_0 := blk_frozen BK217.out 0
            have hfz32_1 := blk_frozen BK217.out 1
            have hnb33 := NB216_218.out
            have hnc33 := NB218_216.out
            have hcz34_0 : wc.cell? ⟨gb216, 0, none⟩ = some (.int .i64 a0_0) := (blk_cell BK216.out 0).trans rfl
            have hcz34_1 : wc.cell? ⟨gb216, 1, none⟩ = some (.int .i64 a0_1) := (blk_cell BK216.out 1).trans rfl
            have hcz34_2 : wc.cell? ⟨gb216, 2, none⟩ = some (.slice A0_2 l0_2.length c0_2) := (blk_cell BK216.out 2).trans rfl
            have hcz34_3 : wc.cell? ⟨gb216, 3, none⟩ = some (.int .i64 a0_3) := (blk_cell BK216.out 3).trans rfl
            have hfz34_0 := blk_frozen BK216.out 0
            have hfz34_1 := blk_frozen BK216.out 1
            have hfz34_2 := blk_frozen BK216.out 2
            have hfz34_3 := blk_frozen BK216.out 3
            go_wp2_with (first | ((with_reducible refine gate_callee (f := 13) rfl ?_); refine goesL_ (some 29) rfl rfl Try.func13 (by kernel_rfl) rfl #[.agg #[.int .i64 a0_0, .int .i64 a0_1, .slice A0_2 l0_2.length c0_2, .int .i64 a0_3]] rfl (by (try simp only [List.map_toArray, List.map_cons, List.map_nil]); first | done | rfl | (simp only [List.length_drop, List.length_take]; rfl)) ?_; (with_reducible refine (rialtoref08_Copy.calls a0_0 a0_1 _ _ l0_2 a0_3 t221 t222 t223 t226 _ ?side1 ?side2 A29.out).mono ?_); (case side1 => repeat (first | exact (Kd.C_below HR0_2.out HB.out) | (with_reducible refine Kd.C_alloc ?_ _) | (with_reducible refine Kd.C_drewN ?_ _) | (with_reducible refine Kd.C_drew ?_))); (case side2 => exact HC0_2.out); rintro e w35 ⟨v224, rfl, ho0, hb⟩; refine ⟨_, rfl, ?_⟩; have n0_ := Aside0.mk (Kd.R_lower ho0 (below_size (by repeat (first | (with_reducible first | exact HB.out | apply below_alloc | apply pw_below_drewN | apply below_drew1 | refine below_set ?_ GE216.out | refine below_set ?_ GE217.out | refine below_set ?_ GE218.out) | exact HB.out)))); have n1_ := Aside0.mk (blk_below (g := gb216) (o := .cells #[.int .i64 a0_0, .int .i64 a0_1, .slice A0_2 l0_2.length c0_2, .int .i64 a0_3] 26 (0, 0)) (by (with_reducible repeat (first | refine blk_drewN ?_ _ | refine blk_drew ?_ | refine blk_alloc ?_ _)); exact BK216.out) hb); have n2_ := Aside0.mk (blk_below (g := gb217) (o := .cells #[.int .i64 a1_0, .int .i64 a1_1] 23 (0, 0)) (by (with_reducible repeat (first | refine blk_drewN ?_ _ | refine blk_drew ?_ | refine blk_alloc ?_ _)); exact BK217.out) hb); have n3_ := Aside0.mk (blk_below (g := gb218) (o := .cells #[.int .i64 0, .int .i64 0, .slice none 0 0, .int .i64 0] 26 (0, 0)) (by (with_reducible repeat (first | refine blk_drewN ?_ _ | refine blk_drew ?_ | refine blk_alloc ?_ _)); exact BK218.out) hb); have n4_ := Aside0.mk (below_step (by repeat (first | (with_reducible first | exact HB.out | apply below_alloc | apply pw_below_drewN | apply below_drew1 | refine below_set ?_ GE216.out | refine below_set ?_ GE217.out | refine below_set ?_ GE218.out) | exact HB.out)) hb); clear BK216; clear BK217; clear BK218; clear HB; have HO225 := n0_; have BK216 := n1_; have BK217 := n2_; have BK218 := n3_; have HB := n4_; clear n0_ n1_ n2_ n3_ n4_; (try clear hb); (try clear hb2); (try clear hk); (try clear hi); (try clear ho0); have hcz36_0 : w35.cell? ⟨gb218, 0, none⟩ = some (.int .i64 0) := (blk_cell BK218.out 0).trans rfl; have hcz36_1 : w35.cell? ⟨gb218, 1, none⟩ = some (.int .i64 0) := (blk_cell BK218.out 1).trans rfl; have hcz36_2 : w35.cell? ⟨gb218, 2, none⟩ = some (.slice none 0 0) := (blk_cell BK218.out 2).trans rfl; have hcz36_3 : w35.cell? ⟨gb218, 3, none⟩ = some (.int .i64 0) := (blk_cell BK218.out 3).trans rfl; have hfz36_0 := blk_frozen BK218.out 0; have hfz36_1 := blk_frozen BK218.out 1; have hfz36_2 := blk_frozen BK218.out 2; have hfz36_3 := blk_frozen BK218.out 3; obtain ⟨Ao37, co37, eo37⟩ := Kd.R_slice HO225.out; subst eo37))
            refine bodyPost_ret (results_ctt rfl _ _ gb218 26 #[.int .i64 t221, .int .i64 t222, .slice Ao37 t223.length co37, .int .i64 t226] (0, 0) _ rfl (by (with_reducible repeat (first | refine blk_drewN ?_ _ | refine blk_drew ?_ | refine blk_alloc ?_ _)); refine blk_put (cs := #[.int .i64 t221, .int .i64 t222, .slice Ao37 t223.length co37, .int .i64 0]) ?_ 3 _ rfl; (with_reducible repeat (first | refine blk_drewN ?_ _ | refine blk_drew ?_ | refine blk_alloc ?_ _)); refine blk_put (cs := #[.int .i64 t221, .int .i64 t222, .slice none 0 0, .int .i64 0]) ?_ 2 _ rfl; (with_reducible repeat (first | refine blk_drewN ?_ _ | refine blk_drew ?_ | refine blk_alloc ?_ _)); refine blk_put (cs := #[.int .i64 t221, .int .i64 0, .slice none 0 0, .int .i64 0]) ?_ 1 _ rfl; (with_reducible repeat (first | refine blk_drewN ?_ _ | refine blk_drew ?_ | refine blk_alloc ?_ _)); refine blk_put (cs := #[.int .i64 0, .int .i64 0, .slice none 0 0, .int .i64 0]) ?_ 0 _ rfl; (with_reducible repeat (first | refine blk_drewN ?_ _ | refine blk_drew ?_ | refine blk_alloc ?_ _)); exact BK218.out) Try.underlying26 rfl (by kernel_rfl)) rfl ?_
            exact ⟨_, by first | rfl | (simp [errW_none, errW_some] <;> rfl) | (simp [*, errW_none, errW_some] <;> rfl), by (with_reducible repeat (first | apply Kd.R_alloc | apply Kd.R_drewN | apply Kd.R_drew)); exact Kd.R_mono (Kd.R_far (p := ⟨gb218, 3, none⟩) (Kd.R_far (p := ⟨gb218, 2, none⟩) (Kd.R_far (p := ⟨gb218, 1, none⟩) (Kd.R_far (p := ⟨gb218, 0, none⟩) (Kd.R_types HO225.out BK218.out (by decide)) (fun _ hk => hk.2) (.int .i64 t221)) (fun _ hk => hk.2) (.int .i64 t222)) (fun _ hk => hk.2) (.slice Ao37 t223.length co37)) (fun _ hk => hk.2) (.int .i64 t226)) (fun _ hk => trivial), by repeat (first | (with_reducible first | exact HB.out | apply below_alloc | apply pw_below_drewN | apply below_drew1 | refine below_set ?_ GE216.out | refine below_set ?_ GE217.out | refine below_set ?_ GE218.out) | exact HB.out)⟩
          · rw [if_neg c28] at H
            have c28b0 : decide (a1_0 ≤ a0_3) = false := decide_eq_false c28
            clear c28
            replace H := Option.bind_eq_some_iff.mp H
            obtain ⟨⟨t228, t229⟩, A380, H⟩ := H
            replace H : (if t229 = true then (if t228 = a1_1 then ((rialtoref09_behind.f a0_0 a0_1 l0_2 a0_3 a1_0).bind fun t230 => (some (a1_0, a1_1, t230, a1_0, true, 0))) else (some (a1_0, a1_1, ([] : List (S33)), a1_0, true, 0))) else (some (a1_0, a1_1, ([] : List (S33)), a1_0, true, 0))) = some (r1, r2, r3, r4, r5, r6) := H
            have A38 := Aside0.mk A380
            clear A380
            by_cases c39 : t229 = true
            · subst c39
              have H1 : (if t228 = a1_1 then ((rialtoref09_behind.f a0_0 a0_1 l0_2 a0_3 a1_0).bind fun t230 => (some (a1_0, a1_1, t230, a1_0, true, 0))) else (some (a1_0, a1_1, ([] : List (S33)), a1_0, true, 0))) = some (r1, r2, r3, r4, r5, r6) := by rw [if_pos rfl] at H; exact H
              clear H
              have H := H1
              clear H1
              by_cases c40 : t228 = a1_1
              · rw [if_pos c40] at H
                have c40b0 : (t228 == a1_1) = true := beq_iff_eq.mpr c40
                have c40b1 : (t228 != a1_1) = false := bne_eq_false_iff_eq.mpr c40
                clear c40
                replace H := Option.bind_eq_some_iff.mp H
                obtain ⟨t230, A410, H⟩ := H
                replace H : (some (a1_0, a1_1, t230, a1_0, true, 0)) = some (r1, r2, r3, r4, r5, r6) := H
                have A41 := Aside0.mk A410
                clear A410
                simp only [Option.some.injEq, Prod.mk.injEq] at H
                obtain ⟨rfl, rfl, rfl, rfl, rfl, rfl⟩ := H
                have hnb42 := NB217_216.out
                have hnc42 := NB216_217.out
                have hnb43 := NB217_218.out
                have hnc43 := NB218_217.out
                have hcz44_0 : wc.cell? ⟨gb217, 0, none⟩ = some (.int .i64 a1_0) := (blk_cell BK217.out 0).trans rfl
                have hcz44_1 : wc.cell? ⟨gb217, 1, none⟩ = some (.int .i64 a1_1) := (blk_cell BK217.out 1).trans rfl
                have hfz44_0 := blk_frozen BK217.out 0
                have hfz44_1 := blk_frozen BK217.out 1
                have hnb45 := NB216_218.out
                have hnc45 := NB218_216.out
                have hcz46_0 : wc.cell? ⟨gb216, 0, none⟩ = some (.int .i64 a0_0) := (blk_cell BK216.out 0).trans rfl
                have hcz46_1 : wc.cell? ⟨gb216, 1, none⟩ = some (.int .i64 a0_1) := (blk_cell BK216.out 1).trans rfl
                have hcz46_2 : wc.cell? ⟨gb216, 2, none⟩ = some (.slice A0_2 l0_2.length c0_2) := (blk_cell BK216.out 2).trans rfl
                have hcz46_3 : wc.cell? ⟨gb216, 3, none⟩ = some (.int .i64 a0_3) := (blk_cell BK216.out 3).trans rfl
                have hfz46_0 := blk_frozen BK216.out 0
                have hfz46_1 := blk_frozen BK216.out 1
                have hfz46_2 := blk_frozen BK216.out 2
                have hfz46_3 := blk_frozen BK216.out 3
                go_wp2_with (first | ((with_reducible refine gate_dst (N := 7) rfl ?_); refine box_event ?hg (N := 7) ?hd (cs := #[.int .i64 0, .int .i64 0, .slice none 0 0, .int .i64 0]) (t := 26) ?hr ?_; (case hd => rfl); (case hg => rfl); (case hr => first | (go_simp; done) | (go_simp; rfl)); intro gb227 hg w47 hbox hb; have n0_ := Aside0.mk (blk_below (g := gb216) (o := .cells #[.int .i64 a0_0, .int .i64 a0_1, .slice A0_2 l0_2.length c0_2, .int .i64 a0_3] 26 (0, 0)) (by (with_reducible repeat (first | refine blk_drewN ?_ _ | refine blk_drew ?_ | refine blk_alloc ?_ _)); exact BK216.out) hb); have n1_ := Aside0.mk (blk_below (g := gb217) (o := .cells #[.int .i64 a1_0, .int .i64 a1_1] 23 (0, 0)) (by (with_reducible repeat (first | refine blk_drewN ?_ _ | refine blk_drew ?_ | refine blk_alloc ?_ _)); exact BK217.out) hb); have n2_ := Aside0.mk (blk_below (g := gb218) (o := .cells #[.int .i64 0, .int .i64 0, .slice none 0 0, .int .i64 0] 26 (0, 0)) (by (with_reducible repeat (first | refine blk_drewN ?_ _ | refine blk_drew ?_ | refine blk_alloc ?_ _)); exact BK218.out) hb); have n3_ := Aside0.mk (below_step (by repeat (first | (with_reducible first | exact HB.out | apply below_alloc | apply pw_below_drewN | apply below_drew1 | refine below_set ?_ GE216.out | refine below_set ?_ GE217.out | refine below_set ?_ GE218.out) | exact HB.out)) hb); have n4_ := Aside0.mk (hbox); have n5_ := Aside0.mk ((by rw [hg]; exact (below_size (by repeat (first | (with_reducible first | exact HB.out | apply below_alloc | apply pw_below_drewN | apply below_drew1 | refine below_set ?_ GE216.out | refine below_set ?_ GE217.out | refine below_set ?_ GE218.out) | exact HB.out))) : w.heap.size ≤ gb227)); have n6_ := Aside0.mk ((by rw [hg]; exact (below_size (by repeat (first | (with_reducible first | exact HB.out | apply below_alloc | apply pw_below_drewN | apply below_drew1 | refine below_set ?_ GE216.out | refine below_set ?_ GE217.out | refine below_set ?_ GE218.out) | exact HB.out))) : w.heap.size ≤ gb227)); have n7_ := Aside0.mk ((by rw [hg]; exact Nat.ne_of_lt (blk_lt (g := gb216) (o := .cells #[.int .i64 a0_0, .int .i64 a0_1, .slice A0_2 l0_2.length c0_2, .int .i64 a0_3] 26 (0, 0)) (by (with_reducible repeat (first | refine blk_drewN ?_ _ | refine blk_drew ?_ | refine blk_alloc ?_ _)); exact BK216.out)) : gb216 ≠ gb227)); have n8_ := Aside0.mk ((by rw [hg]; exact Nat.ne_of_gt (blk_lt (g := gb216) (o := .cells #[.int .i64 a0_0, .int .i64 a0_1, .slice A0_2 l0_2.length c0_2, .int .i64 a0_3] 26 (0, 0)) (by (with_reducible repeat (first | refine blk_drewN ?_ _ | refine blk_drew ?_ | refine blk_alloc ?_ _)); exact BK216.out)) : gb227 ≠ gb216)); have n9_ := Aside0.mk ((by rw [hg]; exact Nat.ne_of_lt (blk_lt (g := gb217) (o := .cells #[.int .i64 a1_0, .int .i64 a1_1] 23 (0, 0)) (by (with_reducible repeat (first | refine blk_drewN ?_ _ | refine blk_drew ?_ | refine blk_alloc ?_ _)); exact BK217.out)) : gb217 ≠ gb227)); have n10_ := Aside0.mk ((by rw [hg]; exact Nat.ne_of_gt (blk_lt (g := gb217) (o := .cells #[.int .i64 a1_0, .int .i64 a1_1] 23 (0, 0)) (by (with_reducible repeat (first | refine blk_drewN ?_ _ | refine blk_drew ?_ | refine blk_alloc ?_ _)); exact BK217.out)) : gb227 ≠ gb217)); have n11_ := Aside0.mk ((by rw [hg]; exact Nat.ne_of_lt (blk_lt (g := gb218) (o := .cells #[.int .i64 0, .int .i64 0, .slice none 0 0, .int .i64 0] 26 (0, 0)) (by (with_reducible repeat (first | refine blk_drewN ?_ _ | refine blk_drew ?_ | refine blk_alloc ?_ _)); exact BK218.out)) : gb218 ≠ gb227)); have n12_ := Aside0.mk ((by rw [hg]; exact Nat.ne_of_gt (blk_lt (g := gb218) (o := .cells #[.int .i64 0, .int .i64 0, .slice none 0 0, .int .i64 0] 26 (0, 0)) (by (with_reducible repeat (first | refine blk_drewN ?_ _ | refine blk_drew ?_ | refine blk_alloc ?_ _)); exact BK218.out)) : gb227 ≠ gb218)); clear BK216; clear BK217; clear BK218; clear HB; have BK216 := n0_; have BK217 := n1_; have BK218 := n2_; have HB := n3_; have BK227 := n4_; have GW227 := n5_; have GE227 := n6_; have NB216_227 := n7_; have NB227_216 := n8_; have NB217_227 := n9_; have NB227_217 := n10_; have NB218_227 := n11_; have NB227_218 := n12_; clear n0_ n1_ n2_ n3_ n4_ n5_ n6_ n7_ n8_ n9_ n10_ n11_ n12_; clear hb hbox hg; have hnb48 := NB227_216.out; have hnc48 := NB216_227.out; have hnb49 := NB227_217.out; have hnc49 := NB217_227.out; have hnb50 := NB227_218.out; have hnc50 := NB218_227.out; have hcz51_0 : w47.cell? ⟨gb227, 0, none⟩ = some (.int .i64 0) := (blk_cell BK227.out 0).trans rfl; have hcz51_1 : w47.cell? ⟨gb227, 1, none⟩ = some (.int .i64 0) := (blk_cell BK227.out 1).trans rfl; have hcz51_2 : w47.cell? ⟨gb227, 2, none⟩ = some (.slice none 0 0) := (blk_cell BK227.out 2).trans rfl; have hcz51_3 : w47.cell? ⟨gb227, 3, none⟩ = some (.int .i64 0) := (blk_cell BK227.out 3).trans rfl; have hfz51_0 := blk_frozen BK227.out 0; have hfz51_1 := blk_frozen BK227.out 1; have hfz51_2 := blk_frozen BK227.out 2; have hfz51_3 := blk_frozen BK227.out 3; have hcz52_0 : w47.cell? ⟨gb216, 0, none⟩ = some (.int .i64 a0_0) := (blk_cell BK216.out 0).trans rfl; have hcz52_1 : w47.cell? ⟨gb216, 1, none⟩ = some (.int .i64 a0_1) := (blk_cell BK216.out 1).trans rfl; have hcz52_2 : w47.cell? ⟨gb216, 2, none⟩ = some (.slice A0_2 l0_2.length c0_2) := (blk_cell BK216.out 2).trans rfl; have hcz52_3 : w47.cell? ⟨gb216, 3, none⟩ = some (.int .i64 a0_3) := (blk_cell BK216.out 3).trans rfl; have hfz52_0 := blk_frozen BK216.out 0; have hfz52_1 := blk_frozen BK216.out 1; have hfz52_2 := blk_frozen BK216.out 2; have hfz52_3 := blk_frozen BK216.out 3; have hcz53_0 : w47.cell? ⟨gb217, 0, none⟩ = some (.int .i64 a1_0) := (blk_cell BK217.out 0).trans rfl; have hcz53_1 : w47.cell? ⟨gb217, 1, none⟩ = some (.int .i64 a1_1) := (blk_cell BK217.out 1).trans rfl; have hfz53_0 := blk_frozen BK217.out 0; have hfz53_1 := blk_frozen BK217.out 1) | ((with_reducible refine gate_callee (f := 28) rfl ?_); refine goesL_ (some 38) rfl rfl Try.func28 (by kernel_rfl) rfl #[.agg #[.int .i64 a0_0, .int .i64 a0_1, .slice A0_2 l0_2.length c0_2, .int .i64 a0_3], .int .i64 a1_0] rfl (by (try simp only [List.map_toArray, List.map_cons, List.map_nil]); first | done | rfl | (simp only [List.length_drop, List.length_take]; rfl)) ?_; (with_reducible refine (rialtoref08_TermAt.calls kj4 a0_0 a0_1 _ _ l0_2 a0_3 a1_0 t228 true _ ?side1 ?side2 A38.out).mono ?_); (case side1 => exact Kd.C_below HR0_2.out (by repeat (first | (with_reducible first | exact HB.out | apply below_alloc | apply pw_below_drewN | apply below_drew1 | refine below_set ?_ GE216.out | refine below_set ?_ GE217.out | refine below_set ?_ GE218.out | refine below_set ?_ GE227.out) | exact HB.out))); (case side2 => exact HC0_2.out); rintro e w54 ⟨rfl, hb⟩; refine ⟨_, rfl, ?_⟩; have n0_ := Aside0.mk (blk_below (g := gb216) (o := .cells #[.int .i64 a0_0, .int .i64 a0_1, .slice A0_2 l0_2.length c0_2, .int .i64 a0_3] 26 (0, 0)) (by (with_reducible repeat (first | refine blk_drewN ?_ _ | refine blk_drew ?_ | refine blk_alloc ?_ _)); refine blk_far ?_ NB216_227.out _; (with_reducible repeat (first | refine blk_drewN ?_ _ | refine blk_drew ?_ | refine blk_alloc ?_ _)); refine blk_far ?_ NB216_227.out _; (with_reducible repeat (first | refine blk_drewN ?_ _ | refine blk_drew ?_ | refine blk_alloc ?_ _)); refine blk_far ?_ NB216_227.out _; (with_reducible repeat (first | refine blk_drewN ?_ _ | refine blk_drew ?_ | refine blk_alloc ?_ _)); refine blk_far ?_ NB216_227.out _; (with_reducible repeat (first | refine blk_drewN ?_ _ | refine blk_drew ?_ | refine blk_alloc ?_ _)); exact BK216.out) hb); have n1_ := Aside0.mk (blk_below (g := gb217) (o := .cells #[.int .i64 a1_0, .int .i64 a1_1] 23 (0, 0)) (by (with_reducible repeat (first | refine blk_drewN ?_ _ | refine blk_drew ?_ | refine blk_alloc ?_ _)); refine blk_far ?_ NB217_227.out _; (with_reducible repeat (first | refine blk_drewN ?_ _ | refine blk_drew ?_ | refine blk_alloc ?_ _)); refine blk_far ?_ NB217_227.out _; (with_reducible repeat (first | refine blk_drewN ?_ _ | refine blk_drew ?_ | refine blk_alloc ?_ _)); refine blk_far ?_ NB217_227.out _; (with_reducible repeat (first | refine blk_drewN ?_ _ | refine blk_drew ?_ | refine blk_alloc ?_ _)); refine blk_far ?_ NB217_227.out _; (with_reducible repeat (first | refine blk_drewN ?_ _ | refine blk_drew ?_ | refine blk_alloc ?_ _)); exact BK217.out) hb); have n2_ := Aside0.mk (blk_below (g := gb218) (o := .cells #[.int .i64 0, .int .i64 0, .slice none 0 0, .int .i64 0] 26 (0, 0)) (by (with_reducible repeat (first | refine blk_drewN ?_ _ | refine blk_drew ?_ | refine blk_alloc ?_ _)); refine blk_far ?_ NB218_227.out _; (with_reducible repeat (first | refine blk_drewN ?_ _ | refine blk_drew ?_ | refine blk_alloc ?_ _)); refine blk_far ?_ NB218_227.out _; (with_reducible repeat (first | refine blk_drewN ?_ _ | refine blk_drew ?_ | refine blk_alloc ?_ _)); refine blk_far ?_ NB218_227.out _; (with_reducible repeat (first | refine blk_drewN ?_ _ | refine blk_drew ?_ | refine blk_alloc ?_ _)); refine blk_far ?_ NB218_227.out _; (with_reducible repeat (first | refine blk_drewN ?_ _ | refine blk_drew ?_ | refine blk_alloc ?_ _)); exact BK218.out) hb); have n3_ := Aside0.mk (blk_below (g := gb227) (o := .cells #[.int .i64 a1_0, .int .i64 a1_1, .slice none 0 0, .int .i64 a1_0] 26 (0, 0)) (by (with_reducible repeat (first | refine blk_drewN ?_ _ | refine blk_drew ?_ | refine blk_alloc ?_ _)); refine blk_put (cs := #[.int .i64 a1_0, .int .i64 a1_1, .slice none 0 0, .int .i64 0]) ?_ 3 _ rfl; (with_reducible repeat (first | refine blk_drewN ?_ _ | refine blk_drew ?_ | refine blk_alloc ?_ _)); refine blk_put (cs := #[.int .i64 a1_0, .int .i64 a1_1, .slice none 0 0, .int .i64 0]) ?_ 2 _ rfl; (with_reducible repeat (first | refine blk_drewN ?_ _ | refine blk_drew ?_ | refine blk_alloc ?_ _)); refine blk_put (cs := #[.int .i64 a1_0, .int .i64 0, .slice none 0 0, .int .i64 0]) ?_ 1 _ rfl; (with_reducible repeat (first | refine blk_drewN ?_ _ | refine blk_drew ?_ | refine blk_alloc ?_ _)); refine blk_put (cs := #[.int .i64 0, .int .i64 0, .slice none 0 0, .int .i64 0]) ?_ 0 _ rfl; (with_reducible repeat (first | refine blk_drewN ?_ _ | refine blk_drew ?_ | refine blk_alloc ?_ _)); exact BK227.out) hb); have n4_ := Aside0.mk (below_step (by repeat (first | (with_reducible first | exact HB.out | apply below_alloc | apply pw_below_drewN | apply below_drew1 | refine below_set ?_ GE216.out | refine below_set ?_ GE217.out | refine below_set ?_ GE218.out | refine below_set ?_ GE227.out) | exact HB.out)) hb); clear BK216; clear BK217; clear BK218; clear BK227; clear HB; have BK216 := n0_; have BK217 := n1_; have BK218 := n2_; have BK227 := n3_; have HB := n4_; clear n0_ n1_ n2_ n3_ n4_; (try clear hb); (try clear hb2); (try clear hk); (try clear hi); have hcz55_0 : w54.cell? ⟨gb217, 0, none⟩ = some (.int .i64 a1_0) := (blk_cell BK217.out 0).trans rfl; have hcz55_1 : w54.cell? ⟨gb217, 1, none⟩ = some (.int .i64 a1_1) := (blk_cell BK217.out 1).trans rfl; have hfz55_0 := blk_frozen BK217.out 0; have hfz55_1 := blk_frozen BK217.out 1; have hcz56_0 : w54.cell? ⟨gb216, 0, none⟩ = some (.int .i64 a0_0) := (blk_cell BK216.out 0).trans rfl; have hcz56_1 : w54.cell? ⟨gb216, 1, none⟩ = some (.int .i64 a0_1) := (blk_cell BK216.out 1).trans rfl; have hcz56_2 : w54.cell? ⟨gb216, 2, none⟩ = some (.slice A0_2 l0_2.length c0_2) := (blk_cell BK216.out 2).trans rfl; have hcz56_3 : w54.cell? ⟨gb216, 3, none⟩ = some (.int .i64 a0_3) := (blk_cell BK216.out 3).trans rfl; have hfz56_0 := blk_frozen BK216.out 0; have hfz56_1 := blk_frozen BK216.out 1; have hfz56_2 := blk_frozen BK216.out 2; have hfz56_3 := blk_frozen BK216.out 3) | ((with_reducible refine gate_callee (f := 38) rfl ?_); refine goesL_ (some 51) rfl rfl Try.func38 (by kernel_rfl) rfl #[.agg #[.int .i64 a0_0, .int .i64 a0_1, .slice A0_2 l0_2.length c0_2, .int .i64 a0_3], .int .i64 a1_0] rfl (by (try simp only [List.map_toArray, List.map_cons, List.map_nil]); first | done | rfl | (simp only [List.length_drop, List.length_take]; rfl)) ?_; (with_reducible refine (rialtoref09_behind.calls a0_0 a0_1 _ _ l0_2 a0_3 a1_0 t230 _ ?side1 ?side2 A41.out).mono ?_); (case side1 => repeat (first | exact (Kd.C_below HR0_2.out HB.out) | (with_reducible refine Kd.C_alloc ?_ _) | (with_reducible refine Kd.C_drewN ?_ _) | (with_reducible refine Kd.C_drew ?_))); (case side2 => exact HC0_2.out); rintro e w57 ⟨v231, rfl, ho0, hb⟩; refine ⟨_, rfl, ?_⟩; have n0_ := Aside0.mk (Kd.R_lower ho0 (below_size (by repeat (first | (with_reducible first | exact HB.out | apply below_alloc | apply pw_below_drewN | apply below_drew1 | refine below_set ?_ GE216.out | refine below_set ?_ GE217.out | refine below_set ?_ GE218.out | refine below_set ?_ GE227.out) | exact HB.out)))); have n1_ := Aside0.mk (blk_below (g := gb216) (o := .cells #[.int .i64 a0_0, .int .i64 a0_1, .slice A0_2 l0_2.length c0_2, .int .i64 a0_3] 26 (0, 0)) (by (with_reducible repeat (first | refine blk_drewN ?_ _ | refine blk_drew ?_ | refine blk_alloc ?_ _)); exact BK216.out) hb); have n2_ := Aside0.mk (blk_below (g := gb217) (o := .cells #[.int .i64 a1_0, .int .i64 a1_1] 23 (0, 0)) (by (with_reducible repeat (first | refine blk_drewN ?_ _ | refine blk_drew ?_ | refine blk_alloc ?_ _)); exact BK217.out) hb); have n3_ := Aside0.mk (blk_below (g := gb218) (o := .cells #[.int .i64 0, .int .i64 0, .slice none 0 0, .int .i64 0] 26 (0, 0)) (by (with_reducible repeat (first | refine blk_drewN ?_ _ | refine blk_drew ?_ | refine blk_alloc ?_ _)); exact BK218.out) hb); have n4_ := Aside0.mk (blk_below (g := gb227) (o := .cells #[.int .i64 a1_0, .int .i64 a1_1, .slice none 0 0, .int .i64 a1_0] 26 (0, 0)) (by (with_reducible repeat (first | refine blk_drewN ?_ _ | refine blk_drew ?_ | refine blk_alloc ?_ _)); exact BK227.out) hb); have n5_ := Aside0.mk (below_step (by repeat (first | (with_reducible first | exact HB.out | apply below_alloc | apply pw_below_drewN | apply below_drew1 | refine below_set ?_ GE216.out | refine below_set ?_ GE217.out | refine below_set ?_ GE218.out | refine below_set ?_ GE227.out) | exact HB.out)) hb); clear BK216; clear BK217; clear BK218; clear BK227; clear HB; have HO232 := n0_; have BK216 := n1_; have BK217 := n2_; have BK218 := n3_; have BK227 := n4_; have HB := n5_; clear n0_ n1_ n2_ n3_ n4_ n5_; (try clear hb); (try clear hb2); (try clear hk); (try clear hi); (try clear ho0); obtain ⟨Ao58, co58, eo58⟩ := Kd.R_slice HO232.out; subst eo58; have hcz59_0 : w57.cell? ⟨gb227, 0, none⟩ = some (.int .i64 a1_0) := (blk_cell BK227.out 0).trans rfl; have hcz59_1 : w57.cell? ⟨gb227, 1, none⟩ = some (.int .i64 a1_1) := (blk_cell BK227.out 1).trans rfl; have hcz59_2 : w57.cell? ⟨gb227, 2, none⟩ = some (.slice none 0 0) := (blk_cell BK227.out 2).trans rfl; have hcz59_3 : w57.cell? ⟨gb227, 3, none⟩ = some (.int .i64 a1_0) := (blk_cell BK227.out 3).trans rfl; have hfz59_0 := blk_frozen BK227.out 0; have hfz59_1 := blk_frozen BK227.out 1; have hfz59_2 := blk_frozen BK227.out 2; have hfz59_3 := blk_frozen BK227.out 3; have hcz60_0 : w57.cell? ⟨gb218, 0, none⟩ = some (.int .i64 0) := (blk_cell BK218.out 0).trans rfl; have hcz60_1 : w57.cell? ⟨gb218, 1, none⟩ = some (.int .i64 0) := (blk_cell BK218.out 1).trans rfl; have hcz60_2 : w57.cell? ⟨gb218, 2, none⟩ = some (.slice none 0 0) := (blk_cell BK218.out 2).trans rfl; have hcz60_3 : w57.cell? ⟨gb218, 3, none⟩ = some (.int .i64 0) := (blk_cell BK218.out 3).trans rfl; have hfz60_0 := blk_frozen BK218.out 0; have hfz60_1 := blk_frozen BK218.out 1; have hfz60_2 := blk_frozen BK218.out 2; have hfz60_3 := blk_frozen BK218.out 3))
                refine bodyPost_ret (results_ctt rfl _ _ gb218 26 #[.int .i64 a1_0, .int .i64 a1_1, .slice Ao58 t230.length co58, .int .i64 a1_0] (0, 0) _ rfl (by (with_reducible repeat (first | refine blk_drewN ?_ _ | refine blk_drew ?_ | refine blk_alloc ?_ _)); refine blk_put (cs := #[.int .i64 a1_0, .int .i64 a1_1, .slice Ao58 t230.length co58, .int .i64 0]) ?_ 3 _ rfl; (with_reducible repeat (first | refine blk_drewN ?_ _ | refine blk_drew ?_ | refine blk_alloc ?_ _)); refine blk_put (cs := #[.int .i64 a1_0, .int .i64 a1_1, .slice none 0 0, .int .i64 0]) ?_ 2 _ rfl; (with_reducible repeat (first | refine blk_drewN ?_ _ | refine blk_drew ?_ | refine blk_alloc ?_ _)); refine blk_put (cs := #[.int .i64 a1_0, .int .i64 0, .slice none 0 0, .int .i64 0]) ?_ 1 _ rfl; (with_reducible repeat (first | refine blk_drewN ?_ _ | refine blk_drew ?_ | refine blk_alloc ?_ _)); refine blk_put (cs := #[.int .i64 0, .int .i64 0, .slice none 0 0, .int .i64 0]) ?_ 0 _ rfl; (with_reducible repeat (first | refine blk_drewN ?_ _ | refine blk_drew ?_ | refine blk_alloc ?_ _)); refine blk_far ?_ NB218_227.out _; (with_reducible repeat (first | refine blk_drewN ?_ _ | refine blk_drew ?_ | refine blk_alloc ?_ _)); exact BK218.out) Try.underlying26 rfl (by kernel_rfl)) rfl ?_
                exact ⟨_, by first | rfl | (simp [errW_none, errW_some] <;> rfl) | (simp [*, errW_none, errW_some] <;> rfl), by (with_reducible repeat (first | apply Kd.R_alloc | apply Kd.R_drewN | apply Kd.R_drew)); exact Kd.R_mono (Kd.R_far (p := ⟨gb218, 3, none⟩) (Kd.R_far (p := ⟨gb218, 2, none⟩) (Kd.R_far (p := ⟨gb218, 1, none⟩) (Kd.R_far (p := ⟨gb218, 0, none⟩) (Kd.R_far (p := ⟨gb227, 2, none⟩) (Kd.R_types (Kd.R_types HO232.out BK227.out (by decide)) BK218.out (by decide)) (fun _ hk => hk.1.2) (.slice Ao58 t230.length co58)) (fun _ hk => hk.2) (.int .i64 a1_0)) (fun _ hk => hk.2) (.int .i64 a1_1)) (fun _ hk => hk.2) (.slice Ao58 t230.length co58)) (fun _ hk => hk.2) (.int .i64 a1_0)) (fun _ hk => trivial), by repeat (first | (with_reducible first | exact HB.out | apply below_alloc | apply pw_below_drewN | apply below_drew1 | refine below_set ?_ GE216.out | refine below_set ?_ GE217.out | refine below_set ?_ GE218.out | refine below_set ?_ GE227.out) | exact HB.out)⟩
              · rw [if_neg c40] at H
                have c40b0 : (t228 == a1_1) = false := beq_eq_false_iff_ne.mpr c40
                have c40b1 : (t228 != a1_1) = true := bne_iff_ne.mpr c40
                simp only [Option.some.injEq, Prod.mk.injEq] at H
                obtain ⟨rfl, rfl, rfl, rfl, rfl, rfl⟩ := H
                have hnb61 := NB217_216.out
                have hnc61 := NB216_217.out
                have hnb62 := NB217_218.out
                have hnc62 := NB218_217.out
                have hcz63_0 : wc.cell? ⟨gb217, 0, none⟩ = some (.int .i64 a1_0) := (blk_cell BK217.out 0).trans rfl
                have hcz63_1 : wc.cell? ⟨gb217, 1, none⟩ = some (.int .i64 a1_1) := (blk_cell BK217.out 1).trans rfl
                have hfz63_0 := blk_frozen BK217.out 0
                have hfz63_1 := blk_frozen BK217.out 1
                have hnb64 := NB216_218.out
                have hnc64 := NB218_216.out
                have hcz65_0 : wc.cell? ⟨gb216, 0, none⟩ = some (.int .i64 a0_0) := (blk_cell BK216.out 0).trans rfl
                have hcz65_1 : wc.cell? ⟨gb216, 1, none⟩ = some (.int .i64 a0_1) := (blk_cell BK216.out 1).trans rfl
                have hcz65_2 : wc.cell? ⟨gb216, 2, none⟩ = some (.slice A0_2 l0_2.length c0_2) := (blk_cell BK216.out 2).trans rfl
                have hcz65_3 : wc.cell? ⟨gb216, 3, none⟩ = some (.int .i64 a0_3) := (blk_cell BK216.out 3).trans rfl
                have hfz65_0 := blk_frozen BK216.out 0
                have hfz65_1 := blk_frozen BK216.out 1
                have hfz65_2 := blk_frozen BK216.out 2
                have hfz65_3 := blk_frozen BK216.out 3
                go_wp2_with (first | ((with_reducible refine gate_dst (N := 7) rfl ?_); refine box_event ?hg (N := 7) ?hd (cs := #[.int .i64 0, .int .i64 0, .slice none 0 0, .int .i64 0]) (t := 26) ?hr ?_; (case hd => rfl); (case hg => rfl); (case hr => first | (go_simp; done) | (go_simp; rfl)); intro gb227 hg w66 hbox hb; have n0_ := Aside0.mk (blk_below (g := gb216) (o := .cells #[.int .i64 a0_0, .int .i64 a0_1, .slice A0_2 l0_2.length c0_2, .int .i64 a0_3] 26 (0, 0)) (by (with_reducible repeat (first | refine blk_drewN ?_ _ | refine blk_drew ?_ | refine blk_alloc ?_ _)); exact BK216.out) hb); have n1_ := Aside0.mk (blk_below (g := gb217) (o := .cells #[.int .i64 a1_0, .int .i64 a1_1] 23 (0, 0)) (by (with_reducible repeat (first | refine blk_drewN ?_ _ | refine blk_drew ?_ | refine blk_alloc ?_ _)); exact BK217.out) hb); have n2_ := Aside0.mk (blk_below (g := gb218) (o := .cells #[.int .i64 0, .int .i64 0, .slice none 0 0, .int .i64 0] 26 (0, 0)) (by (with_reducible repeat (first | refine blk_drewN ?_ _ | refine blk_drew ?_ | refine blk_alloc ?_ _)); exact BK218.out) hb); have n3_ := Aside0.mk (below_step (by repeat (first | (with_reducible first | exact HB.out | apply below_alloc | apply pw_below_drewN | apply below_drew1 | refine below_set ?_ GE216.out | refine below_set ?_ GE217.out | refine below_set ?_ GE218.out) | exact HB.out)) hb); have n4_ := Aside0.mk (hbox); have n5_ := Aside0.mk ((by rw [hg]; exact (below_size (by repeat (first | (with_reducible first | exact HB.out | apply below_alloc | apply pw_below_drewN | apply below_drew1 | refine below_set ?_ GE216.out | refine below_set ?_ GE217.out | refine below_set ?_ GE218.out) | exact HB.out))) : w.heap.size ≤ gb227)); have n6_ := Aside0.mk ((by rw [hg]; exact (below_size (by repeat (first | (with_reducible first | exact HB.out | apply below_alloc | apply pw_below_drewN | apply below_drew1 | refine below_set ?_ GE216.out | refine below_set ?_ GE217.out | refine below_set ?_ GE218.out) | exact HB.out))) : w.heap.size ≤ gb227)); have n7_ := Aside0.mk ((by rw [hg]; exact Nat.ne_of_lt (blk_lt (g := gb216) (o := .cells #[.int .i64 a0_0, .int .i64 a0_1, .slice A0_2 l0_2.length c0_2, .int .i64 a0_3] 26 (0, 0)) (by (with_reducible repeat (first | refine blk_drewN ?_ _ | refine blk_drew ?_ | refine blk_alloc ?_ _)); exact BK216.out)) : gb216 ≠ gb227)); have n8_ := Aside0.mk ((by rw [hg]; exact Nat.ne_of_gt (blk_lt (g := gb216) (o := .cells #[.int .i64 a0_0, .int .i64 a0_1, .slice A0_2 l0_2.length c0_2, .int .i64 a0_3] 26 (0, 0)) (by (with_reducible repeat (first | refine blk_drewN ?_ _ | refine blk_drew ?_ | refine blk_alloc ?_ _)); exact BK216.out)) : gb227 ≠ gb216)); have n9_ := Aside0.mk ((by rw [hg]; exact Nat.ne_of_lt (blk_lt (g := gb217) (o := .cells #[.int .i64 a1_0, .int .i64 a1_1] 23 (0, 0)) (by (with_reducible repeat (first | refine blk_drewN ?_ _ | refine blk_drew ?_ | refine blk_alloc ?_ _)); exact BK217.out)) : gb217 ≠ gb227)); have n10_ := Aside0.mk ((by rw [hg]; exact Nat.ne_of_gt (blk_lt (g := gb217) (o := .cells #[.int .i64 a1_0, .int .i64 a1_1] 23 (0, 0)) (by (with_reducible repeat (first | refine blk_drewN ?_ _ | refine blk_drew ?_ | refine blk_alloc ?_ _)); exact BK217.out)) : gb227 ≠ gb217)); have n11_ := Aside0.mk ((by rw [hg]; exact Nat.ne_of_lt (blk_lt (g := gb218) (o := .cells #[.int .i64 0, .int .i64 0, .slice none 0 0, .int .i64 0] 26 (0, 0)) (by (with_reducible repeat (first | refine blk_drewN ?_ _ | refine blk_drew ?_ | refine blk_alloc ?_ _)); exact BK218.out)) : gb218 ≠ gb227)); have n12_ := Aside0.mk ((by rw [hg]; exact Nat.ne_of_gt (blk_lt (g := gb218) (o := .cells #[.int .i64 0, .int .i64 0, .slice none 0 0, .int .i64 0] 26 (0, 0)) (by (with_reducible repeat (first | refine blk_drewN ?_ _ | refine blk_drew ?_ | refine blk_alloc ?_ _)); exact BK218.out)) : gb227 ≠ gb218)); clear BK216; clear BK217; clear BK218; clear HB; have BK216 := n0_; have BK217 := n1_; have BK218 := n2_; have HB := n3_; have BK227 := n4_; have GW227 := n5_; have GE227 := n6_; have NB216_227 := n7_; have NB227_216 := n8_; have NB217_227 := n9_; have NB227_217 := n10_; have NB218_227 := n11_; have NB227_218 := n12_; clear n0_ n1_ n2_ n3_ n4_ n5_ n6_ n7_ n8_ n9_ n10_ n11_ n12_; clear hb hbox hg; have hnb67 := NB227_216.out; have hnc67 := NB216_227.out; have hnb68 := NB227_217.out; have hnc68 := NB217_227.out; have hnb69 := NB227_218.out; have hnc69 := NB218_227.out; have hcz70_0 : w66.cell? ⟨gb227, 0, none⟩ = some (.int .i64 0) := (blk_cell BK227.out 0).trans rfl; have hcz70_1 : w66.cell? ⟨gb227, 1, none⟩ = some (.int .i64 0) := (blk_cell BK227.out 1).trans rfl; have hcz70_2 : w66.cell? ⟨gb227, 2, none⟩ = some (.slice none 0 0) := (blk_cell BK227.out 2).trans rfl; have hcz70_3 : w66.cell? ⟨gb227, 3, none⟩ = some (.int .i64 0) := (blk_cell BK227.out 3).trans rfl; have hfz70_0 := blk_frozen BK227.out 0; have hfz70_1 := blk_frozen BK227.out 1; have hfz70_2 := blk_frozen BK227.out 2; have hfz70_3 := blk_frozen BK227.out 3; have hcz71_0 : w66.cell? ⟨gb216, 0, none⟩ = some (.int .i64 a0_0) := (blk_cell BK216.out 0).trans rfl; have hcz71_1 : w66.cell? ⟨gb216, 1, none⟩ = some (.int .i64 a0_1) := (blk_cell BK216.out 1).trans rfl; have hcz71_2 : w66.cell? ⟨gb216, 2, none⟩ = some (.slice A0_2 l0_2.length c0_2) := (blk_cell BK216.out 2).trans rfl; have hcz71_3 : w66.cell? ⟨gb216, 3, none⟩ = some (.int .i64 a0_3) := (blk_cell BK216.out 3).trans rfl; have hfz71_0 := blk_frozen BK216.out 0; have hfz71_1 := blk_frozen BK216.out 1; have hfz71_2 := blk_frozen BK216.out 2; have hfz71_3 := blk_frozen BK216.out 3; have hcz72_0 : w66.cell? ⟨gb217, 0, none⟩ = some (.int .i64 a1_0) := (blk_cell BK217.out 0).trans rfl; have hcz72_1 : w66.cell? ⟨gb217, 1, none⟩ = some (.int .i64 a1_1) := (blk_cell BK217.out 1).trans rfl; have hfz72_0 := blk_frozen BK217.out 0; have hfz72_1 := blk_frozen BK217.out 1) | ((with_reducible refine gate_callee (f := 28) rfl ?_); refine goesL_ (some 38) rfl rfl Try.func28 (by kernel_rfl) rfl #[.agg #[.int .i64 a0_0, .int .i64 a0_1, .slice A0_2 l0_2.length c0_2, .int .i64 a0_3], .int .i64 a1_0] rfl (by (try simp only [List.map_toArray, List.map_cons, List.map_nil]); first | done | rfl | (simp only [List.length_drop, List.length_take]; rfl)) ?_; (with_reducible refine (rialtoref08_TermAt.calls kj4 a0_0 a0_1 _ _ l0_2 a0_3 a1_0 t228 true _ ?side1 ?side2 A38.out).mono ?_); (case side1 => exact Kd.C_below HR0_2.out (by repeat (first | (with_reducible first | exact HB.out | apply below_alloc | apply pw_below_drewN | apply below_drew1 | refine below_set ?_ GE216.out | refine below_set ?_ GE217.out | refine below_set ?_ GE218.out | refine below_set ?_ GE227.out) | exact HB.out))); (case side2 => exact HC0_2.out); rintro e w73 ⟨rfl, hb⟩; refine ⟨_, rfl, ?_⟩; have n0_ := Aside0.mk (blk_below (g := gb216) (o := .cells #[.int .i64 a0_0, .int .i64 a0_1, .slice A0_2 l0_2.length c0_2, .int .i64 a0_3] 26 (0, 0)) (by (with_reducible repeat (first | refine blk_drewN ?_ _ | refine blk_drew ?_ | refine blk_alloc ?_ _)); refine blk_far ?_ NB216_227.out _; (with_reducible repeat (first | refine blk_drewN ?_ _ | refine blk_drew ?_ | refine blk_alloc ?_ _)); refine blk_far ?_ NB216_227.out _; (with_reducible repeat (first | refine blk_drewN ?_ _ | refine blk_drew ?_ | refine blk_alloc ?_ _)); refine blk_far ?_ NB216_227.out _; (with_reducible repeat (first | refine blk_drewN ?_ _ | refine blk_drew ?_ | refine blk_alloc ?_ _)); refine blk_far ?_ NB216_227.out _; (with_reducible repeat (first | refine blk_drewN ?_ _ | refine blk_drew ?_ | refine blk_alloc ?_ _)); exact BK216.out) hb); have n1_ := Aside0.mk (blk_below (g := gb217) (o := .cells #[.int .i64 a1_0, .int .i64 a1_1] 23 (0, 0)) (by (with_reducible repeat (first | refine blk_drewN ?_ _ | refine blk_drew ?_ | refine blk_alloc ?_ _)); refine blk_far ?_ NB217_227.out _; (with_reducible repeat (first | refine blk_drewN ?_ _ | refine blk_drew ?_ | refine blk_alloc ?_ _)); refine blk_far ?_ NB217_227.out _; (with_reducible repeat (first | refine blk_drewN ?_ _ | refine blk_drew ?_ | refine blk_alloc ?_ _)); refine blk_far ?_ NB217_227.out _; (with_reducible repeat (first | refine blk_drewN ?_ _ | refine blk_drew ?_ | refine blk_alloc ?_ _)); refine blk_far ?_ NB217_227.out _; (with_reducible repeat (first | refine blk_drewN ?_ _ | refine blk_drew ?_ | refine blk_alloc ?_ _)); exact BK217.out) hb); have n2_ := Aside0.mk (blk_below (g := gb218) (o := .cells #[.int .i64 0, .int .i64 0, .slice none 0 0, .int .i64 0] 26 (0, 0)) (by (with_reducible repeat (first | refine blk_drewN ?_ _ | refine blk_drew ?_ | refine blk_alloc ?_ _)); refine blk_far ?_ NB218_227.out _; (with_reducible repeat (first | refine blk_drewN ?_ _ | refine blk_drew ?_ | refine blk_alloc ?_ _)); refine blk_far ?_ NB218_227.out _; (with_reducible repeat (first | refine blk_drewN ?_ _ | refine blk_drew ?_ | refine blk_alloc ?_ _)); refine blk_far ?_ NB218_227.out _; (with_reducible repeat (first | refine blk_drewN ?_ _ | refine blk_drew ?_ | refine blk_alloc ?_ _)); refine blk_far ?_ NB218_227.out _; (with_reducible repeat (first | refine blk_drewN ?_ _ | refine blk_drew ?_ | refine blk_alloc ?_ _)); exact BK218.out) hb); have n3_ := Aside0.mk (blk_below (g := gb227) (o := .cells #[.int .i64 a1_0, .int .i64 a1_1, .slice none 0 0, .int .i64 a1_0] 26 (0, 0)) (by (with_reducible repeat (first | refine blk_drewN ?_ _ | refine blk_drew ?_ | refine blk_alloc ?_ _)); refine blk_put (cs := #[.int .i64 a1_0, .int .i64 a1_1, .slice none 0 0, .int .i64 0]) ?_ 3 _ rfl; (with_reducible repeat (first | refine blk_drewN ?_ _ | refine blk_drew ?_ | refine blk_alloc ?_ _)); refine blk_put (cs := #[.int .i64 a1_0, .int .i64 a1_1, .slice none 0 0, .int .i64 0]) ?_ 2 _ rfl; (with_reducible repeat (first | refine blk_drewN ?_ _ | refine blk_drew ?_ | refine blk_alloc ?_ _)); refine blk_put (cs := #[.int .i64 a1_0, .int .i64 0, .slice none 0 0, .int .i64 0]) ?_ 1 _ rfl; (with_reducible repeat (first | refine blk_drewN ?_ _ | refine blk_drew ?_ | refine blk_alloc ?_ _)); refine blk_put (cs := #[.int .i64 0, .int .i64 0, .slice none 0 0, .int .i64 0]) ?_ 0 _ rfl; (with_reducible repeat (first | refine blk_drewN ?_ _ | refine blk_drew ?_ | refine blk_alloc ?_ _)); exact BK227.out) hb); have n4_ := Aside0.mk (below_step (by repeat (first | (with_reducible first | exact HB.out | apply below_alloc | apply pw_below_drewN | apply below_drew1 | refine below_set ?_ GE216.out | refine below_set ?_ GE217.out | refine below_set ?_ GE218.out | refine below_set ?_ GE227.out) | exact HB.out)) hb); clear BK216; clear BK217; clear BK218; clear BK227; clear HB; have BK216 := n0_; have BK217 := n1_; have BK218 := n2_; have BK227 := n3_; have HB := n4_; clear n0_ n1_ n2_ n3_ n4_; (try clear hb); (try clear hb2); (try clear hk); (try clear hi); have hcz74_0 : w73.cell? ⟨gb217, 0, none⟩ = some (.int .i64 a1_0) := (blk_cell BK217.out 0).trans rfl; have hcz74_1 : w73.cell? ⟨gb217, 1, none⟩ = some (.int .i64 a1_1) := (blk_cell BK217.out 1).trans rfl; have hfz74_0 := blk_frozen BK217.out 0; have hfz74_1 := blk_frozen BK217.out 1; have hcz75_0 : w73.cell? ⟨gb227, 0, none⟩ = some (.int .i64 a1_0) := (blk_cell BK227.out 0).trans rfl; have hcz75_1 : w73.cell? ⟨gb227, 1, none⟩ = some (.int .i64 a1_1) := (blk_cell BK227.out 1).trans rfl; have hcz75_2 : w73.cell? ⟨gb227, 2, none⟩ = some (.slice none 0 0) := (blk_cell BK227.out 2).trans rfl; have hcz75_3 : w73.cell? ⟨gb227, 3, none⟩ = some (.int .i64 a1_0) := (blk_cell BK227.out 3).trans rfl; have hfz75_0 := blk_frozen BK227.out 0; have hfz75_1 := blk_frozen BK227.out 1; have hfz75_2 := blk_frozen BK227.out 2; have hfz75_3 := blk_frozen BK227.out 3; have hcz76_0 : w73.cell? ⟨gb218, 0, none⟩ = some (.int .i64 0) := (blk_cell BK218.out 0).trans rfl; have hcz76_1 : w73.cell? ⟨gb218, 1, none⟩ = some (.int .i64 0) := (blk_cell BK218.out 1).trans rfl; have hcz76_2 : w73.cell? ⟨gb218, 2, none⟩ = some (.slice none 0 0) := (blk_cell BK218.out 2).trans rfl; have hcz76_3 : w73.cell? ⟨gb218, 3, none⟩ = some (.int .i64 0) := (blk_cell BK218.out 3).trans rfl; have hfz76_0 := blk_frozen BK218.out 0; have hfz76_1 := blk_frozen BK218.out 1; have hfz76_2 := blk_frozen BK218.out 2; have hfz76_3 := blk_frozen BK218.out 3))
                refine bodyPost_ret (results_ctt rfl _ _ gb218 26 #[.int .i64 a1_0, .int .i64 a1_1, .slice none 0 0, .int .i64 a1_0] (0, 0) _ rfl (by (with_reducible repeat (first | refine blk_drewN ?_ _ | refine blk_drew ?_ | refine blk_alloc ?_ _)); refine blk_put (cs := #[.int .i64 a1_0, .int .i64 a1_1, .slice none 0 0, .int .i64 0]) ?_ 3 _ rfl; (with_reducible repeat (first | refine blk_drewN ?_ _ | refine blk_drew ?_ | refine blk_alloc ?_ _)); refine blk_put (cs := #[.int .i64 a1_0, .int .i64 a1_1, .slice none 0 0, .int .i64 0]) ?_ 2 _ rfl; (with_reducible repeat (first | refine blk_drewN ?_ _ | refine blk_drew ?_ | refine blk_alloc ?_ _)); refine blk_put (cs := #[.int .i64 a1_0, .int .i64 0, .slice none 0 0, .int .i64 0]) ?_ 1 _ rfl; (with_reducible repeat (first | refine blk_drewN ?_ _ | refine blk_drew ?_ | refine blk_alloc ?_ _)); refine blk_put (cs := #[.int .i64 0, .int .i64 0, .slice none 0 0, .int .i64 0]) ?_ 0 _ rfl; (with_reducible repeat (first | refine blk_drewN ?_ _ | refine blk_drew ?_ | refine blk_alloc ?_ _)); exact BK218.out) Try.underlying26 rfl (by kernel_rfl)) rfl ?_
                exact ⟨_, by first | rfl | (simp [errW_none, errW_some] <;> rfl) | (simp [*, errW_none, errW_some] <;> rfl), by first | exact Kd.R_nil _ _ _ _ _ | exact Kd.N_nil _ _ _ _ _ | exact Kd.V_nil _ _ _ _ _ | exact Kd.Q_nil _ _ _ _ _ | exact Kd.S_nil _ _ _ _ _, by repeat (first | (with_reducible first | exact HB.out | apply below_alloc | apply pw_below_drewN | apply below_drew1 | refine below_set ?_ GE216.out | refine below_set ?_ GE217.out | refine below_set ?_ GE218.out | refine below_set ?_ GE227.out) | exact HB.out)⟩
            · replace c39 := Bool.eq_false_iff.mpr c39
              subst c39
              have H1 : (some (a1_0, a1_1, ([] : List (S33)), a1_0, true, 0)) = some (r1, r2, r3, r4, r5, r6) := by rw [if_neg (show ¬ (false = true) by decide)] at H; exact H
              clear H
              have H := H1
              clear H1
              simp only [Option.some.injEq, Prod.mk.injEq] at H
              obtain ⟨rfl, rfl, rfl, rfl, rfl, rfl⟩ := H
              have hnb77 := NB217_216.out
              have hnc77 := NB216_217.out
              have hnb78 := NB217_218.out
              have hnc78 := NB218_217.out
              have hcz79_0 : wc.cell? ⟨gb217, 0, none⟩ = some (.int .i64 a1_0) := (blk_cell BK217.out 0).trans rfl
              have hcz79_1 : wc.cell? ⟨gb217, 1, none⟩ = some (.int .i64 a1_1) := (blk_cell BK217.out 1).trans rfl
              have hfz79_0 := blk_frozen BK217.out 0
              have hfz79_1 := blk_frozen BK217.out 1
              have hnb80 := NB216_218.out
              have hnc80 := NB218_216.out
              have hcz81_0 : wc.cell? ⟨gb216, 0, none⟩ = some (.int .i64 a0_0) := (blk_cell BK216.out 0).trans rfl
              have hcz81_1 : wc.cell? ⟨gb216, 1, none⟩ = some (.int .i64 a0_1) := (blk_cell BK216.out 1).trans rfl
              have hcz81_2 : wc.cell? ⟨gb216, 2, none⟩ = some (.slice A0_2 l0_2.length c0_2) := (blk_cell BK216.out 2).trans rfl
              have hcz81_3 : wc.cell? ⟨gb216, 3, none⟩ = some (.int .i64 a0_3) := (blk_cell BK216.out 3).trans rfl
              have hfz81_0 := blk_frozen BK216.out 0
              have hfz81_1 := blk_frozen BK216.out 1
              have hfz81_2 := blk_frozen BK216.out 2
              have hfz81_3 := blk_frozen BK216.out 3
              go_wp2_with (first | ((with_reducible refine gate_dst (N := 7) rfl ?_); refine box_event ?hg (N := 7) ?hd (cs := #[.int .i64 0, .int .i64 0, .slice none 0 0, .int .i64 0]) (t := 26) ?hr ?_; (case hd => rfl); (case hg => rfl); (case hr => first | (go_simp; done) | (go_simp; rfl)); intro gb227 hg w82 hbox hb; have n0_ := Aside0.mk (blk_below (g := gb216) (o := .cells #[.int .i64 a0_0, .int .i64 a0_1, .slice A0_2 l0_2.length c0_2, .int .i64 a0_3] 26 (0, 0)) (by (with_reducible repeat (first | refine blk_drewN ?_ _ | refine blk_drew ?_ | refine blk_alloc ?_ _)); exact BK216.out) hb); have n1_ := Aside0.mk (blk_below (g := gb217) (o := .cells #[.int .i64 a1_0, .int .i64 a1_1] 23 (0, 0)) (by (with_reducible repeat (first | refine blk_drewN ?_ _ | refine blk_drew ?_ | refine blk_alloc ?_ _)); exact BK217.out) hb); have n2_ := Aside0.mk (blk_below (g := gb218) (o := .cells #[.int .i64 0, .int .i64 0, .slice none 0 0, .int .i64 0] 26 (0, 0)) (by (with_reducible repeat (first | refine blk_drewN ?_ _ | refine blk_drew ?_ | refine blk_alloc ?_ _)); exact BK218.out) hb); have n3_ := Aside0.mk (below_step (by repeat (first | (with_reducible first | exact HB.out | apply below_alloc | apply pw_below_drewN | apply below_drew1 | refine below_set ?_ GE216.out | refine below_set ?_ GE217.out | refine below_set ?_ GE218.out) | exact HB.out)) hb); have n4_ := Aside0.mk (hbox); have n5_ := Aside0.mk ((by rw [hg]; exact (below_size (by repeat (first | (with_reducible first | exact HB.out | apply below_alloc | apply pw_below_drewN | apply below_drew1 | refine below_set ?_ GE216.out | refine below_set ?_ GE217.out | refine below_set ?_ GE218.out) | exact HB.out))) : w.heap.size ≤ gb227)); have n6_ := Aside0.mk ((by rw [hg]; exact (below_size (by repeat (first | (with_reducible first | exact HB.out | apply below_alloc | apply pw_below_drewN | apply below_drew1 | refine below_set ?_ GE216.out | refine below_set ?_ GE217.out | refine below_set ?_ GE218.out) | exact HB.out))) : w.heap.size ≤ gb227)); have n7_ := Aside0.mk ((by rw [hg]; exact Nat.ne_of_lt (blk_lt (g := gb216) (o := .cells #[.int .i64 a0_0, .int .i64 a0_1, .slice A0_2 l0_2.length c0_2, .int .i64 a0_3] 26 (0, 0)) (by (with_reducible repeat (first | refine blk_drewN ?_ _ | refine blk_drew ?_ | refine blk_alloc ?_ _)); exact BK216.out)) : gb216 ≠ gb227)); have n8_ := Aside0.mk ((by rw [hg]; exact Nat.ne_of_gt (blk_lt (g := gb216) (o := .cells #[.int .i64 a0_0, .int .i64 a0_1, .slice A0_2 l0_2.length c0_2, .int .i64 a0_3] 26 (0, 0)) (by (with_reducible repeat (first | refine blk_drewN ?_ _ | refine blk_drew ?_ | refine blk_alloc ?_ _)); exact BK216.out)) : gb227 ≠ gb216)); have n9_ := Aside0.mk ((by rw [hg]; exact Nat.ne_of_lt (blk_lt (g := gb217) (o := .cells #[.int .i64 a1_0, .int .i64 a1_1] 23 (0, 0)) (by (with_reducible repeat (first | refine blk_drewN ?_ _ | refine blk_drew ?_ | refine blk_alloc ?_ _)); exact BK217.out)) : gb217 ≠ gb227)); have n10_ := Aside0.mk ((by rw [hg]; exact Nat.ne_of_gt (blk_lt (g := gb217) (o := .cells #[.int .i64 a1_0, .int .i64 a1_1] 23 (0, 0)) (by (with_reducible repeat (first | refine blk_drewN ?_ _ | refine blk_drew ?_ | refine blk_alloc ?_ _)); exact BK217.out)) : gb227 ≠ gb217)); have n11_ := Aside0.mk ((by rw [hg]; exact Nat.ne_of_lt (blk_lt (g := gb218) (o := .cells #[.int .i64 0, .int .i64 0, .slice none 0 0, .int .i64 0] 26 (0, 0)) (by (with_reducible repeat (first | refine blk_drewN ?_ _ | refine blk_drew ?_ | refine blk_alloc ?_ _)); exact BK218.out)) : gb218 ≠ gb227)); have n12_ := Aside0.mk ((by rw [hg]; exact Nat.ne_of_gt (blk_lt (g := gb218) (o := .cells #[.int .i64 0, .int .i64 0, .slice none 0 0, .int .i64 0] 26 (0, 0)) (by (with_reducible repeat (first | refine blk_drewN ?_ _ | refine blk_drew ?_ | refine blk_alloc ?_ _)); exact BK218.out)) : gb227 ≠ gb218)); clear BK216; clear BK217; clear BK218; clear HB; have BK216 := n0_; have BK217 := n1_; have BK218 := n2_; have HB := n3_; have BK227 := n4_; have GW227 := n5_; have GE227 := n6_; have NB216_227 := n7_; have NB227_216 := n8_; have NB217_227 := n9_; have NB227_217 := n10_; have NB218_227 := n11_; have NB227_218 := n12_; clear n0_ n1_ n2_ n3_ n4_ n5_ n6_ n7_ n8_ n9_ n10_ n11_ n12_; clear hb hbox hg; have hnb83 := NB227_216.out; have hnc83 := NB216_227.out; have hnb84 := NB227_217.out; have hnc84 := NB217_227.out; have hnb85 := NB227_218.out; have hnc85 := NB218_227.out; have hcz86_0 : w82.cell? ⟨gb227, 0, none⟩ = some (.int .i64 0) := (blk_cell BK227.out 0).trans rfl; have hcz86_1 : w82.cell? ⟨gb227, 1, none⟩ = some (.int .i64 0) := (blk_cell BK227.out 1).trans rfl; have hcz86_2 : w82.cell? ⟨gb227, 2, none⟩ = some (.slice none 0 0) := (blk_cell BK227.out 2).trans rfl; have hcz86_3 : w82.cell? ⟨gb227, 3, none⟩ = some (.int .i64 0) := (blk_cell BK227.out 3).trans rfl; have hfz86_0 := blk_frozen BK227.out 0; have hfz86_1 := blk_frozen BK227.out 1; have hfz86_2 := blk_frozen BK227.out 2; have hfz86_3 := blk_frozen BK227.out 3; have hcz87_0 : w82.cell? ⟨gb216, 0, none⟩ = some (.int .i64 a0_0) := (blk_cell BK216.out 0).trans rfl; have hcz87_1 : w82.cell? ⟨gb216, 1, none⟩ = some (.int .i64 a0_1) := (blk_cell BK216.out 1).trans rfl; have hcz87_2 : w82.cell? ⟨gb216, 2, none⟩ = some (.slice A0_2 l0_2.length c0_2) := (blk_cell BK216.out 2).trans rfl; have hcz87_3 : w82.cell? ⟨gb216, 3, none⟩ = some (.int .i64 a0_3) := (blk_cell BK216.out 3).trans rfl; have hfz87_0 := blk_frozen BK216.out 0; have hfz87_1 := blk_frozen BK216.out 1; have hfz87_2 := blk_frozen BK216.out 2; have hfz87_3 := blk_frozen BK216.out 3; have hcz88_0 : w82.cell? ⟨gb217, 0, none⟩ = some (.int .i64 a1_0) := (blk_cell BK217.out 0).trans rfl; have hcz88_1 : w82.cell? ⟨gb217, 1, none⟩ = some (.int .i64 a1_1) := (blk_cell BK217.out 1).trans rfl; have hfz88_0 := blk_frozen BK217.out 0; have hfz88_1 := blk_frozen BK217.out 1) | ((with_reducible refine gate_callee (f := 28) rfl ?_); refine goesL_ (some 38) rfl rfl Try.func28 (by kernel_rfl) rfl #[.agg #[.int .i64 a0_0, .int .i64 a0_1, .slice A0_2 l0_2.length c0_2, .int .i64 a0_3], .int .i64 a1_0] rfl (by (try simp only [List.map_toArray, List.map_cons, List.map_nil]); first | done | rfl | (simp only [List.length_drop, List.length_take]; rfl)) ?_; (with_reducible refine (rialtoref08_TermAt.calls kj4 a0_0 a0_1 _ _ l0_2 a0_3 a1_0 t228 false _ ?side1 ?side2 A38.out).mono ?_); (case side1 => exact Kd.C_below HR0_2.out (by repeat (first | (with_reducible first | exact HB.out | apply below_alloc | apply pw_below_drewN | apply below_drew1 | refine below_set ?_ GE216.out | refine below_set ?_ GE217.out | refine below_set ?_ GE218.out | refine below_set ?_ GE227.out) | exact HB.out))); (case side2 => exact HC0_2.out); rintro e w89 ⟨rfl, hb⟩; refine ⟨_, rfl, ?_⟩; have n0_ := Aside0.mk (blk_below (g := gb216) (o := .cells #[.int .i64 a0_0, .int .i64 a0_1, .slice A0_2 l0_2.length c0_2, .int .i64 a0_3] 26 (0, 0)) (by (with_reducible repeat (first | refine blk_drewN ?_ _ | refine blk_drew ?_ | refine blk_alloc ?_ _)); refine blk_far ?_ NB216_227.out _; (with_reducible repeat (first | refine blk_drewN ?_ _ | refine blk_drew ?_ | refine blk_alloc ?_ _)); refine blk_far ?_ NB216_227.out _; (with_reducible repeat (first | refine blk_drewN ?_ _ | refine blk_drew ?_ | refine blk_alloc ?_ _)); refine blk_far ?_ NB216_227.out _; (with_reducible repeat (first | refine blk_drewN ?_ _ | refine blk_drew ?_ | refine blk_alloc ?_ _)); refine blk_far ?_ NB216_227.out _; (with_reducible repeat (first | refine blk_drewN ?_ _ | refine blk_drew ?_ | refine blk_alloc ?_ _)); exact BK216.out) hb); have n1_ := Aside0.mk (blk_below (g := gb217) (o := .cells #[.int .i64 a1_0, .int .i64 a1_1] 23 (0, 0)) (by (with_reducible repeat (first | refine blk_drewN ?_ _ | refine blk_drew ?_ | refine blk_alloc ?_ _)); refine blk_far ?_ NB217_227.out _; (with_reducible repeat (first | refine blk_drewN ?_ _ | refine blk_drew ?_ | refine blk_alloc ?_ _)); refine blk_far ?_ NB217_227.out _; (with_reducible repeat (first | refine blk_drewN ?_ _ | refine blk_drew ?_ | refine blk_alloc ?_ _)); refine blk_far ?_ NB217_227.out _; (with_reducible repeat (first | refine blk_drewN ?_ _ | refine blk_drew ?_ | refine blk_alloc ?_ _)); refine blk_far ?_ NB217_227.out _; (with_reducible repeat (first | refine blk_drewN ?_ _ | refine blk_drew ?_ | refine blk_alloc ?_ _)); exact BK217.out) hb); have n2_ := Aside0.mk (blk_below (g := gb218) (o := .cells #[.int .i64 0, .int .i64 0, .slice none 0 0, .int .i64 0] 26 (0, 0)) (by (with_reducible repeat (first | refine blk_drewN ?_ _ | refine blk_drew ?_ | refine blk_alloc ?_ _)); refine blk_far ?_ NB218_227.out _; (with_reducible repeat (first | refine blk_drewN ?_ _ | refine blk_drew ?_ | refine blk_alloc ?_ _)); refine blk_far ?_ NB218_227.out _; (with_reducible repeat (first | refine blk_drewN ?_ _ | refine blk_drew ?_ | refine blk_alloc ?_ _)); refine blk_far ?_ NB218_227.out _; (with_reducible repeat (first | refine blk_drewN ?_ _ | refine blk_drew ?_ | refine blk_alloc ?_ _)); refine blk_far ?_ NB218_227.out _; (with_reducible repeat (first | refine blk_drewN ?_ _ | refine blk_drew ?_ | refine blk_alloc ?_ _)); exact BK218.out) hb); have n3_ := Aside0.mk (blk_below (g := gb227) (o := .cells #[.int .i64 a1_0, .int .i64 a1_1, .slice none 0 0, .int .i64 a1_0] 26 (0, 0)) (by (with_reducible repeat (first | refine blk_drewN ?_ _ | refine blk_drew ?_ | refine blk_alloc ?_ _)); refine blk_put (cs := #[.int .i64 a1_0, .int .i64 a1_1, .slice none 0 0, .int .i64 0]) ?_ 3 _ rfl; (with_reducible repeat (first | refine blk_drewN ?_ _ | refine blk_drew ?_ | refine blk_alloc ?_ _)); refine blk_put (cs := #[.int .i64 a1_0, .int .i64 a1_1, .slice none 0 0, .int .i64 0]) ?_ 2 _ rfl; (with_reducible repeat (first | refine blk_drewN ?_ _ | refine blk_drew ?_ | refine blk_alloc ?_ _)); refine blk_put (cs := #[.int .i64 a1_0, .int .i64 0, .slice none 0 0, .int .i64 0]) ?_ 1 _ rfl; (with_reducible repeat (first | refine blk_drewN ?_ _ | refine blk_drew ?_ | refine blk_alloc ?_ _)); refine blk_put (cs := #[.int .i64 0, .int .i64 0, .slice none 0 0, .int .i64 0]) ?_ 0 _ rfl; (with_reducible repeat (first | refine blk_drewN ?_ _ | refine blk_drew ?_ | refine blk_alloc ?_ _)); exact BK227.out) hb); have n4_ := Aside0.mk (below_step (by repeat (first | (with_reducible first | exact HB.out | apply below_alloc | apply pw_below_drewN | apply below_drew1 | refine below_set ?_ GE216.out | refine below_set ?_ GE217.out | refine below_set ?_ GE218.out | refine below_set ?_ GE227.out) | exact HB.out)) hb); clear BK216; clear BK217; clear BK218; clear BK227; clear HB; have BK216 := n0_; have BK217 := n1_; have BK218 := n2_; have BK227 := n3_; have HB := n4_; clear n0_ n1_ n2_ n3_ n4_; (try clear hb); (try clear hb2); (try clear hk); (try clear hi); have hcz90_0 : w89.cell? ⟨gb227, 0, none⟩ = some (.int .i64 a1_0) := (blk_cell BK227.out 0).trans rfl; have hcz90_1 : w89.cell? ⟨gb227, 1, none⟩ = some (.int .i64 a1_1) := (blk_cell BK227.out 1).trans rfl; have hcz90_2 : w89.cell? ⟨gb227, 2, none⟩ = some (.slice none 0 0) := (blk_cell BK227.out 2).trans rfl; have hcz90_3 : w89.cell? ⟨gb227, 3, none⟩ = some (.int .i64 a1_0) := (blk_cell BK227.out 3).trans rfl; have hfz90_0 := blk_frozen BK227.out 0; have hfz90_1 := blk_frozen BK227.out 1; have hfz90_2 := blk_frozen BK227.out 2; have hfz90_3 := blk_frozen BK227.out 3; have hcz91_0 : w89.cell? ⟨gb218, 0, none⟩ = some (.int .i64 0) := (blk_cell BK218.out 0).trans rfl; have hcz91_1 : w89.cell? ⟨gb218, 1, none⟩ = some (.int .i64 0) := (blk_cell BK218.out 1).trans rfl; have hcz91_2 : w89.cell? ⟨gb218, 2, none⟩ = some (.slice none 0 0) := (blk_cell BK218.out 2).trans rfl; have hcz91_3 : w89.cell? ⟨gb218, 3, none⟩ = some (.int .i64 0) := (blk_cell BK218.out 3).trans rfl; have hfz91_0 := blk_frozen BK218.out 0; have hfz91_1 := blk_frozen BK218.out 1; have hfz91_2 := blk_frozen BK218.out 2; have hfz91_3 := blk_frozen BK218.out 3))
              refine bodyPost_ret (results_ctt rfl _ _ gb218 26 #[.int .i64 a1_0, .int .i64 a1_1, .slice none 0 0, .int .i64 a1_0] (0, 0) _ rfl (by (with_reducible repeat (first | refine blk_drewN ?_ _ | refine blk_drew ?_ | refine blk_alloc ?_ _)); refine blk_put (cs := #[.int .i64 a1_0, .int .i64 a1_1, .slice none 0 0, .int .i64 0]) ?_ 3 _ rfl; (with_reducible repeat (first | refine blk_drewN ?_ _ | refine blk_drew ?_ | refine blk_alloc ?_ _)); refine blk_put (cs := #[.int .i64 a1_0, .int .i64 a1_1, .slice none 0 0, .int .i64 0]) ?_ 2 _ rfl; (with_reducible repeat (first | refine blk_drewN ?_ _ | refine blk_drew ?_ | refine blk_alloc ?_ _)); refine blk_put (cs := #[.int .i64 a1_0, .int .i64 0, .slice none 0 0, .int .i64 0]) ?_ 1 _ rfl; (with_reducible repeat (first | refine blk_drewN ?_ _ | refine blk_drew ?_ | refine blk_alloc ?_ _)); refine blk_put (cs := #[.int .i64 0, .int .i64 0, .slice none 0 0, .int .i64 0]) ?_ 0 _ rfl; (with_reducible repeat (first | refine blk_drewN ?_ _ | refine blk_drew ?_ | refine blk_alloc ?_ _)); exact BK218.out) Try.underlying26 rfl (by kernel_rfl)) rfl ?_
              exact ⟨_, by first | rfl | (simp [errW_none, errW_some] <;> rfl) | (simp [*, errW_none, errW_some] <;> rfl), by first | exact Kd.R_nil _ _ _ _ _ | exact Kd.N_nil _ _ _ _ _ | exact Kd.V_nil _ _ _ _ _ | exact Kd.Q_nil _ _ _ _ _ | exact Kd.S_nil _ _ _ _ _, by repeat (first | (with_reducible first | exact HB.out | apply below_alloc | apply pw_below_drewN | apply below_drew1 | refine below_set ?_ GE216.out | refine below_set ?_ GE217.out | refine below_set ?_ GE218.out | refine below_set ?_ GE227.out) | exact HB.out)⟩
  · rw [if_neg c4] at H
    have c4b0 : (t219 == 0) = false := beq_eq_false_iff_ne.mpr c4
    have c4b1 : (t219 != 0) = true := bne_iff_ne.mpr c4
    simp only [Option.some.injEq, Prod.mk.injEq] at H
    obtain ⟨rfl, rfl, rfl, rfl, rfl, rfl⟩ := H
    go_enter Try.func19, Try.ntmps19
    go_wp2_with (first | ((with_reducible refine gate_dst (N := 2) rfl ?_); refine box_event ?hg (N := 2) ?hd (cs := #[.int .i64 a0_0, .int .i64 a0_1, .slice A0_2 l0_2.length c0_2, .int .i64 a0_3]) (t := 26) ?hr ?_; (case hd => rfl); (case hg => rfl); (case hr => first | (go_simp; done) | (go_simp; rfl)); intro gb216 hg w92 hbox hb; have n0_ := Aside0.mk (below_step (by repeat (first | (with_reducible first | exact HB.out | apply below_alloc | apply pw_below_drewN | apply below_drew1) | exact HB.out)) hb); have n1_ := Aside0.mk (hbox); have n2_ := Aside0.mk ((by rw [hg]; exact (below_size (by repeat (first | (with_reducible first | exact HB.out | apply below_alloc | apply pw_below_drewN | apply below_drew1) | exact HB.out))) : w.heap.size ≤ gb216)); have n3_ := Aside0.mk ((by rw [hg]; exact (below_size (by repeat (first | (with_reducible first | exact HB.out | apply below_alloc | apply pw_below_drewN | apply below_drew1) | exact HB.out))) : w.heap.size ≤ gb216)); clear HB; have HB := n0_; have BK216 := n1_; have GW216 := n2_; have GE216 := n3_; clear n0_ n1_ n2_ n3_; clear hb hbox hg) | ((with_reducible refine gate_dst (N := 3) rfl ?_); refine box_event ?hg (N := 3) ?hd (cs := #[.int .i64 a1_0, .int .i64 a1_1]) (t := 23) ?hr ?_; (case hd => rfl); (case hg => rfl); (case hr => first | (go_simp; done) | (go_simp; rfl)); intro gb217 hg w93 hbox hb; have n0_ := Aside0.mk (blk_below (g := gb216) (o := .cells #[.int .i64 a0_0, .int .i64 a0_1, .slice A0_2 l0_2.length c0_2, .int .i64 a0_3] 26 (0, 0)) (by (with_reducible repeat (first | refine blk_drewN ?_ _ | refine blk_drew ?_ | refine blk_alloc ?_ _)); exact BK216.out) hb); have n1_ := Aside0.mk (below_step (by repeat (first | (with_reducible first | exact HB.out | apply below_alloc | apply pw_below_drewN | apply below_drew1 | refine below_set ?_ GE216.out) | exact HB.out)) hb); have n2_ := Aside0.mk (hbox); have n3_ := Aside0.mk ((by rw [hg]; exact (below_size (by repeat (first | (with_reducible first | exact HB.out | apply below_alloc | apply pw_below_drewN | apply below_drew1 | refine below_set ?_ GE216.out) | exact HB.out))) : w.heap.size ≤ gb217)); have n4_ := Aside0.mk ((by rw [hg]; exact (below_size (by repeat (first | (with_reducible first | exact HB.out | apply below_alloc | apply pw_below_drewN | apply below_drew1 | refine below_set ?_ GE216.out) | exact HB.out))) : w.heap.size ≤ gb217)); have n5_ := Aside0.mk ((by rw [hg]; exact Nat.ne_of_lt (blk_lt (g := gb216) (o := .cells #[.int .i64 a0_0, .int .i64 a0_1, .slice A0_2 l0_2.length c0_2, .int .i64 a0_3] 26 (0, 0)) (by (with_reducible repeat (first | refine blk_drewN ?_ _ | refine blk_drew ?_ | refine blk_alloc ?_ _)); exact BK216.out)) : gb216 ≠ gb217)); have n6_ := Aside0.mk ((by rw [hg]; exact Nat.ne_of_gt (blk_lt (g := gb216) (o := .cells #[.int .i64 a0_0, .int .i64 a0_1, .slice A0_2 l0_2.length c0_2, .int .i64 a0_3] 26 (0, 0)) (by (with_reducible repeat (first | refine blk_drewN ?_ _ | refine blk_drew ?_ | refine blk_alloc ?_ _)); exact BK216.out)) : gb217 ≠ gb216)); clear BK216; clear HB; have BK216 := n0_; have HB := n1_; have BK217 := n2_; have GW217 := n3_; have GE217 := n4_; have NB216_217 := n5_; have NB217_216 := n6_; clear n0_ n1_ n2_ n3_ n4_ n5_ n6_; clear hb hbox hg) | ((with_reducible refine gate_dst (N := 4) rfl ?_); refine box_event ?hg (N := 4) ?hd (cs := #[.int .i64 0, .int .i64 0, .slice none 0 0, .int .i64 0]) (t := 26) ?hr ?_; (case hd => rfl); (case hg => rfl); (case hr => first | (go_simp; done) | (go_simp; rfl)); intro gb218 hg w94 hbox hb; have n0_ := Aside0.mk (blk_below (g := gb216) (o := .cells #[.int .i64 a0_0, .int .i64 a0_1, .slice A0_2 l0_2.length c0_2, .int .i64 a0_3] 26 (0, 0)) (by (with_reducible repeat (first | refine blk_drewN ?_ _ | refine blk_drew ?_ | refine blk_alloc ?_ _)); exact BK216.out) hb); have n1_ := Aside0.mk (blk_below (g := gb217) (o := .cells #[.int .i64 a1_0, .int .i64 a1_1] 23 (0, 0)) (by (with_reducible repeat (first | refine blk_drewN ?_ _ | refine blk_drew ?_ | refine blk_alloc ?_ _)); exact BK217.out) hb); have n2_ := Aside0.mk (below_step (by repeat (first | (with_reducible first | exact HB.out | apply below_alloc | apply pw_below_drewN | apply below_drew1 | refine below_set ?_ GE216.out | refine below_set ?_ GE217.out) | exact HB.out)) hb); have n3_ := Aside0.mk (hbox); have n4_ := Aside0.mk ((by rw [hg]; exact (below_size (by repeat (first | (with_reducible first | exact HB.out | apply below_alloc | apply pw_below_drewN | apply below_drew1 | refine below_set ?_ GE216.out | refine below_set ?_ GE217.out) | exact HB.out))) : w.heap.size ≤ gb218)); have n5_ := Aside0.mk ((by rw [hg]; exact (below_size (by repeat (first | (with_reducible first | exact HB.out | apply below_alloc | apply pw_below_drewN | apply below_drew1 | refine below_set ?_ GE216.out | refine below_set ?_ GE217.out) | exact HB.out))) : w.heap.size ≤ gb218)); have n6_ := Aside0.mk ((by rw [hg]; exact Nat.ne_of_lt (blk_lt (g := gb216) (o := .cells #[.int .i64 a0_0, .int .i64 a0_1, .slice A0_2 l0_2.length c0_2, .int .i64 a0_3] 26 (0, 0)) (by (with_reducible repeat (first | refine blk_drewN ?_ _ | refine blk_drew ?_ | refine blk_alloc ?_ _)); exact BK216.out)) : gb216 ≠ gb218)); have n7_ := Aside0.mk ((by rw [hg]; exact Nat.ne_of_gt (blk_lt (g := gb216) (o := .cells #[.int .i64 a0_0, .int .i64 a0_1, .slice A0_2 l0_2.length c0_2, .int .i64 a0_3] 26 (0, 0)) (by (with_reducible repeat (first | refine blk_drewN ?_ _ | refine blk_drew ?_ | refine blk_alloc ?_ _)); exact BK216.out)) : gb218 ≠ gb216)); have n8_ := Aside0.mk ((by rw [hg]; exact Nat.ne_of_lt (blk_lt (g := gb217) (o := .cells #[.int .i64 a1_0, .int .i64 a1_1] 23 (0, 0)) (by (with_reducible repeat (first | refine blk_drewN ?_ _ | refine blk_drew ?_ | refine blk_alloc ?_ _)); exact BK217.out)) : gb217 ≠ gb218)); have n9_ := Aside0.mk ((by rw [hg]; exact Nat.ne_of_gt (blk_lt (g := gb217) (o := .cells #[.int .i64 a1_0, .int .i64 a1_1] 23 (0, 0)) (by (with_reducible repeat (first | refine blk_drewN ?_ _ | refine blk_drew ?_ | refine blk_alloc ?_ _)); exact BK217.out)) : gb218 ≠ gb217)); clear BK216; clear BK217; clear HB; have BK216 := n0_; have BK217 := n1_; have HB := n2_; have BK218 := n3_; have GW218 := n4_; have GE218 := n5_; have NB216_218 := n6_; have NB218_216 := n7_; have NB217_218 := n8_; have NB218_217 := n9_; clear n0_ n1_ n2_ n3_ n4_ n5_ n6_ n7_ n8_ n9_; clear hb hbox hg; have hnb95 := NB216_217.out; have hnc95 := NB217_216.out; have hnb96 := NB216_218.out; have hnc96 := NB218_216.out; have hcz97_0 : w94.cell? ⟨gb216, 0, none⟩ = some (.int .i64 a0_0) := (blk_cell BK216.out 0).trans rfl; have hcz97_1 : w94.cell? ⟨gb216, 1, none⟩ = some (.int .i64 a0_1) := (blk_cell BK216.out 1).trans rfl; have hcz97_2 : w94.cell? ⟨gb216, 2, none⟩ = some (.slice A0_2 l0_2.length c0_2) := (blk_cell BK216.out 2).trans rfl; have hcz97_3 : w94.cell? ⟨gb216, 3, none⟩ = some (.int .i64 a0_3) := (blk_cell BK216.out 3).trans rfl; have hfz97_0 := blk_frozen BK216.out 0; have hfz97_1 := blk_frozen BK216.out 1; have hfz97_2 := blk_frozen BK216.out 2; have hfz97_3 := blk_frozen BK216.out 3) | ((with_reducible refine gate_callee (f := 31) rfl ?_); refine goesL_ (some 11) rfl rfl Try.func31 (by kernel_rfl) rfl #[.agg #[.int .i64 a0_0, .int .i64 a0_1, .slice A0_2 l0_2.length c0_2, .int .i64 a0_3]] rfl (by (try simp only [List.map_toArray, List.map_cons, List.map_nil]); first | done | rfl | (simp only [List.length_drop, List.length_take]; rfl)) ?_; (with_reducible refine (rialtoref08_Check.calls k a0_0 a0_1 _ _ l0_2 a0_3 t219 _ ?side1 ?side2 A3.out).mono ?_); (case side1 => repeat (first | exact (Kd.C_below HR0_2.out HB.out) | (with_reducible refine Kd.C_alloc ?_ _) | (with_reducible refine Kd.C_drewN ?_ _) | (with_reducible refine Kd.C_drew ?_))); (case side2 => exact HC0_2.out); rintro e w98 ⟨rfl, hb⟩; refine ⟨_, rfl, ?_⟩; have n0_ := Aside0.mk (blk_below (g := gb216) (o := .cells #[.int .i64 a0_0, .int .i64 a0_1, .slice A0_2 l0_2.length c0_2, .int .i64 a0_3] 26 (0, 0)) (by (with_reducible repeat (first | refine blk_drewN ?_ _ | refine blk_drew ?_ | refine blk_alloc ?_ _)); exact BK216.out) hb); have n1_ := Aside0.mk (blk_below (g := gb217) (o := .cells #[.int .i64 a1_0, .int .i64 a1_1] 23 (0, 0)) (by (with_reducible repeat (first | refine blk_drewN ?_ _ | refine blk_drew ?_ | refine blk_alloc ?_ _)); exact BK217.out) hb); have n2_ := Aside0.mk (blk_below (g := gb218) (o := .cells #[.int .i64 0, .int .i64 0, .slice none 0 0, .int .i64 0] 26 (0, 0)) (by (with_reducible repeat (first | refine blk_drewN ?_ _ | refine blk_drew ?_ | refine blk_alloc ?_ _)); exact BK218.out) hb); have n3_ := Aside0.mk (below_step (by repeat (first | (with_reducible first | exact HB.out | apply below_alloc | apply pw_below_drewN | apply below_drew1 | refine below_set ?_ GE216.out | refine below_set ?_ GE217.out | refine below_set ?_ GE218.out) | exact HB.out)) hb); clear BK216; clear BK217; clear BK218; clear HB; have BK216 := n0_; have BK217 := n1_; have BK218 := n2_; have HB := n3_; clear n0_ n1_ n2_ n3_; (try clear hb); (try clear hb2); (try clear hk); (try clear hi); have hnb99 := NB218_217.out; have hnc99 := NB217_218.out; have hcz100_0 : w98.cell? ⟨gb218, 0, none⟩ = some (.int .i64 0) := (blk_cell BK218.out 0).trans rfl; have hcz100_1 : w98.cell? ⟨gb218, 1, none⟩ = some (.int .i64 0) := (blk_cell BK218.out 1).trans rfl; have hcz100_2 : w98.cell? ⟨gb218, 2, none⟩ = some (.slice none 0 0) := (blk_cell BK218.out 2).trans rfl; have hcz100_3 : w98.cell? ⟨gb218, 3, none⟩ = some (.int .i64 0) := (blk_cell BK218.out 3).trans rfl; have hfz100_0 := blk_frozen BK218.out 0; have hfz100_1 := blk_frozen BK218.out 1; have hfz100_2 := blk_frozen BK218.out 2; have hfz100_3 := blk_frozen BK218.out 3))
    refine bodyPost_ret (results_ctt rfl _ _ gb218 26 #[.int .i64 0, .int .i64 0, .slice none 0 0, .int .i64 0] (0, 0) _ rfl (by (with_reducible repeat (first | refine blk_drewN ?_ _ | refine blk_drew ?_ | refine blk_alloc ?_ _)); refine blk_put (cs := #[.int .i64 0, .int .i64 0, .slice none 0 0, .int .i64 0]) ?_ 3 _ rfl; (with_reducible repeat (first | refine blk_drewN ?_ _ | refine blk_drew ?_ | refine blk_alloc ?_ _)); refine blk_put (cs := #[.int .i64 0, .int .i64 0, .slice none 0 0, .int .i64 0]) ?_ 2 _ rfl; (with_reducible repeat (first | refine blk_drewN ?_ _ | refine blk_drew ?_ | refine blk_alloc ?_ _)); refine blk_put (cs := #[.int .i64 0, .int .i64 0, .slice none 0 0, .int .i64 0]) ?_ 1 _ rfl; (with_reducible repeat (first | refine blk_drewN ?_ _ | refine blk_drew ?_ | refine blk_alloc ?_ _)); refine blk_put (cs := #[.int .i64 0, .int .i64 0, .slice none 0 0, .int .i64 0]) ?_ 0 _ rfl; (with_reducible repeat (first | refine blk_drewN ?_ _ | refine blk_drew ?_ | refine blk_alloc ?_ _)); exact BK218.out) Try.underlying26 rfl (by kernel_rfl)) rfl ?_
    exact ⟨_, by first | rfl | (simp [errW_none, errW_some] <;> rfl) | (simp [*, errW_none, errW_some] <;> rfl), by first | exact Kd.R_nil _ _ _ _ _ | exact Kd.N_nil _ _ _ _ _ | exact Kd.V_nil _ _ _ _ _ | exact Kd.Q_nil _ _ _ _ _ | exact Kd.S_nil _ _ _ _ _, by repeat (first | (with_reducible first | exact HB.out | apply below_alloc | apply pw_below_drewN | apply below_drew1 | refine below_set ?_ GE216.out | refine below_set ?_ GE217.out | refine below_set ?_ GE218.out) | exact HB.out)⟩

end Go.Proofs.Ytiebeiloooblpaa.E
end
section
-- written by myprint.py, a program of this session over the kit's print.py
namespace Go.Proofs.Ytiebeiloooblpaa.E
open Go.RowKit Go.Proofs.YtiebeiloooblpaaW.PrintWords Go.Proofs.YtiebeiloooblpaaW.PrintLast Go.Proofs.YtiebeiloooblpaaW.PrintMore
attribute [local go_sem] max2_int min2_int max_two min_two max_three min_three max_four min_four   -- for this text's walks alone
set_option linter.unusedVariables false
set_option linter.unusedSimpArgs false

/-! ### rialtolaw09_SnapInstalls: function 4 -/
mutual
def rialtolaw09_SnapInstalls.j0 : Nat → Bool → Int → Int → List (S33) → Int → Int → Int → List (S33) → Int → Int → Int → List (S33) → Int → Option (Bool)
  | 0, _, _, _, _, _, _, _, _, _, _, _, _, _ => none
  | k + 1, x48, x234000, x234001, x234002, x234003, x242000, x242001, x242002, x242003, x251000, x251001, x251002, x251003 => if x48 = true then (some false) else (rialtolaw09_SnapInstalls.l0 k 0 x234000 x234001 x234002 x234003 x242000 x242001 x242002 x242003 x251000 x251001 x251002 x251003)
def rialtolaw09_SnapInstalls.l0 : Nat → Int → Int → Int → List (S33) → Int → Int → Int → List (S33) → Int → Int → Int → List (S33) → Int → Option (Bool)
  | 0, _, _, _, _, _, _, _, _, _, _, _, _, _ => none
  | k + 1, x12, x234000, x234001, x234002, x234003, x242000, x242001, x242002, x242003, x251000, x251001, x251002, x251003 => if x12 < (x251002.length : Int) then (if 0 ≤ x12 then (rialtolaw09_SnapInstalls.l0 k (wrap64 (x12 + 1)) x234000 x234001 x234002 x234003 x242000 x242001 x242002 x242003 x251000 x251001 (x251002.set (x12 : Int).toNat (⟨(rd_T33 x251002 x12).f0, (rd_T33 x251002 x12).f1, (⟨#[119, 114, 105, 116, 116, 101, 110]⟩ : ByteArray)⟩ : S33)) x251003) else (none)) else ((rialtoref08_Same.f k x242000 x242001 x242002 x242003 x234000 x234001 x234002 x234003).bind fun t263 => (if t263 = true then ((rialtolaw09_live.f k).bind fun t264 => (some t264)) else (some false)))
end
def rialtolaw09_SnapInstalls.f (k : Nat) (a0_0 : Int) (a0_1 : Int) (l0_2 : List (S33)) (a0_3 : Int) (a1_0 : Int) (a1_1 : Int) : Option (Bool) := (rialtoref08_Copy.f a0_0 a0_1 l0_2 a0_3).bind fun bt235 => ((snap_Install.f k bt235.1 bt235.2.1 bt235.2.2.1 bt235.2.2.2 a1_0 a1_1).bind fun bt242 => ((rialtoref09_Install.f k a0_0 a0_1 l0_2 a0_3 a1_0 a1_1).bind fun bt251 => ((rialtoref08_Same.f k bt242.1 bt242.2.1 bt242.2.2.1 bt242.2.2.2.1 bt251.1 bt251.2.1 bt251.2.2.1 bt251.2.2.2.1).bind fun t260 => (if t260 = true then (if (bt242.2.2.2.2.1 != bt251.2.2.2.2.1) = true then (rialtolaw09_SnapInstalls.j0 k true a0_0 a0_1 l0_2 a0_3 bt235.1 bt235.2.1 bt235.2.2.1 bt235.2.2.2 bt242.1 bt242.2.1 bt242.2.2.1 bt242.2.2.2.1) else (if bt242.2.2.2.2.2 = bt251.2.2.2.2.2 then ((rialtoref08_Same.f k bt235.1 bt235.2.1 bt235.2.2.1 bt235.2.2.2 a0_0 a0_1 l0_2 a0_3).bind fun t261 => (rialtolaw09_SnapInstalls.j0 k (!t261) a0_0 a0_1 l0_2 a0_3 bt235.1 bt235.2.1 bt235.2.2.1 bt235.2.2.2 bt242.1 bt242.2.1 bt242.2.2.1 bt242.2.2.2.1)) else (rialtolaw09_SnapInstalls.j0 k true a0_0 a0_1 l0_2 a0_3 bt235.1 bt235.2.1 bt235.2.2.1 bt235.2.2.2 bt242.1 bt242.2.1 bt242.2.2.1 bt242.2.2.2.1))) else (rialtolaw09_SnapInstalls.j0 k true a0_0 a0_1 l0_2 a0_3 bt235.1 bt235.2.1 bt235.2.2.1 bt235.2.2.2 bt242.1 bt242.2.1 bt242.2.2.1 bt242.2.2.2.1)))))
set_option maxHeartbeats 8000000 in
set_option maxRecDepth 100000 in
theorem rialtolaw09_SnapInstalls.calls (k : Nat) (a0_0 : Int) (a0_1 : Int) (A0_2 : Option Addr) (c0_2 : Nat) (l0_2 : List (S33)) (a0_3 : Int) (a1_0 : Int) (a1_1 : Int) (r : Bool) (w : World) (hr0_2 : Kd.C k33 w A0_2 l0_2.length l0_2) (hc0_2 : l0_2.length ≤ c0_2) (h : rialtolaw09_SnapInstalls.f k a0_0 a0_1 l0_2 a0_3 a1_0 a1_1 = some r) :
    Calls Try.prog 4 #[.agg #[.int .i64 a0_0, .int .i64 a0_1, .slice A0_2 l0_2.length c0_2, .int .i64 a0_3], .agg #[.int .i64 a1_0, .int .i64 a1_1]] w fun e w' => e = .returned (.bool r) ∧ Below w.heap.size w w' := by
  have hu26 := Try.underlying26
  have hu23 := Try.underlying23
  have HR0_2 := Aside0.mk hr0_2
  have HC0_2 := Aside0.mk hc0_2
  clear hr0_2 hc0_2
  have HB := Aside0.mk (Below.refl w.heap.size w)
  have H : ((rialtoref08_Copy.f a0_0 a0_1 l0_2 a0_3).bind fun bt235 => ((snap_Install.f k bt235.1 bt235.2.1 bt235.2.2.1 bt235.2.2.2 a1_0 a1_1).bind fun bt242 => ((rialtoref09_Install.f k a0_0 a0_1 l0_2 a0_3 a1_0 a1_1).bind fun bt251 => ((rialtoref08_Same.f k bt242.1 bt242.2.1 bt242.2.2.1 bt242.2.2.2.1 bt251.1 bt251.2.1 bt251.2.2.1 bt251.2.2.2.1).bind fun t260 => (if t260 = true then (if (bt242.2.2.2.2.1 != bt251.2.2.2.2.1) = true then (rialtolaw09_SnapInstalls.j0 k true a0_0 a0_1 l0_2 a0_3 bt235.1 bt235.2.1 bt235.2.2.1 bt235.2.2.2 bt242.1 bt242.2.1 bt242.2.2.1 bt242.2.2.2.1) else (if bt242.2.2.2.2.2 = bt251.2.2.2.2.2 then ((rialtoref08_Same.f k bt235.1 bt235.2.1 bt235.2.2.1 bt235.2.2.2 a0_0 a0_1 l0_2 a0_3).bind fun t261 => (rialtolaw09_SnapInstalls.j0 k (!t261) a0_0 a0_1 l0_2 a0_3 bt235.1 bt235.2.1 bt235.2.2.1 bt235.2.2.2 bt242.1 bt242.2.1 bt242.2.2.1 bt242.2.2.2.1)) else (rialtolaw09_SnapInstalls.j0 k true a0_0 a0_1 l0_2 a0_3 bt235.1 bt235.2.1 bt235.2.2.1 bt235.2.2.2 bt242.1 bt242.2.1 bt242.2.2.1 bt242.2.2.2.1))) else (rialtolaw09_SnapInstalls.j0 k true a0_0 a0_1 l0_2 a0_3 bt235.1 bt235.2.1 bt235.2.2.1 bt235.2.2.2 bt242.1 bt242.2.1 bt242.2.2.1 bt242.2.2.2.1)))))) = some r := h
  clear h
  replace H := Option.bind_eq_some_iff.mp H
  obtain ⟨⟨t235, t236, t237, t240⟩, A30, H⟩ := H
  replace H : ((snap_Install.f k t235 t236 t237 t240 a1_0 a1_1).bind fun bt242 => ((rialtoref09_Install.f k a0_0 a0_1 l0_2 a0_3 a1_0 a1_1).bind fun bt251 => ((rialtoref08_Same.f k bt242.1 bt242.2.1 bt242.2.2.1 bt242.2.2.2.1 bt251.1 bt251.2.1 bt251.2.2.1 bt251.2.2.2.1).bind fun t260 => (if t260 = true then (if (bt242.2.2.2.2.1 != bt251.2.2.2.2.1) = true then (rialtolaw09_SnapInstalls.j0 k true a0_0 a0_1 l0_2 a0_3 t235 t236 t237 t240 bt242.1 bt242.2.1 bt242.2.2.1 bt242.2.2.2.1) else (if bt242.2.2.2.2.2 = bt251.2.2.2.2.2 then ((rialtoref08_Same.f k t235 t236 t237 t240 a0_0 a0_1 l0_2 a0_3).bind fun t261 => (rialtolaw09_SnapInstalls.j0 k (!t261) a0_0 a0_1 l0_2 a0_3 t235 t236 t237 t240 bt242.1 bt242.2.1 bt242.2.2.1 bt242.2.2.2.1)) else (rialtolaw09_SnapInstalls.j0 k true a0_0 a0_1 l0_2 a0_3 t235 t236 t237 t240 bt242.1 bt242.2.1 bt242.2.2.1 bt242.2.2.2.1))) else (rialtolaw09_SnapInstalls.j0 k true a0_0 a0_1 l0_2 a0_3 t235 t236 t237 t240 bt242.1 bt242.2.1 bt242.2.2.1 bt242.2.2.2.1))))) = some r := H
  have A3 := Aside0.mk A30
  clear A30
  replace H := Option.bind_eq_some_iff.mp H
  obtain ⟨⟨t242, t243, t244, t247, t248, t249⟩, A40, H⟩ := H
  replace H : ((rialtoref09_Install.f k a0_0 a0_1 l0_2 a0_3 a1_0 a1_1).bind fun bt251 => ((rialtoref08_Same.f k t242 t243 t244 t247 bt251.1 bt251.2.1 bt251.2.2.1 bt251.2.2.2.1).bind fun t260 => (if t260 = true then (if (t248 != bt251.2.2.2.2.1) = true then (rialtolaw09_SnapInstalls.j0 k true a0_0 a0_1 l0_2 a0_3 t235 t236 t237 t240 t242 t243 t244 t247) else (if t249 = bt251.2.2.2.2.2 then ((rialtoref08_Same.f k t235 t236 t237 t240 a0_0 a0_1 l0_2 a0_3).bind fun t261 => (rialtolaw09_SnapInstalls.j0 k (!t261) a0_0 a0_1 l0_2 a0_3 t235 t236 t237 t240 t242 t243 t244 t247)) else (rialtolaw09_SnapInstalls.j0 k true a0_0 a0_1 l0_2 a0_3 t235 t236 t237 t240 t242 t243 t244 t247))) else (rialtolaw09_SnapInstalls.j0 k true a0_0 a0_1 l0_2 a0_3 t235 t236 t237 t240 t242 t243 t244 t247)))) = some r := H
  have A4 := Aside0.mk A40
  clear A40
  replace H := Option.bind_eq_some_iff.mp H
  obtain ⟨⟨t251, t252, t253, t256, t257, t258⟩, A50, H⟩ := H
  replace H : ((rialtoref08_Same.f k t242 t243 t244 t247 t251 t252 t253 t256).bind fun t260 => (if t260 = true then (if (t248 != t257) = true then (rialtolaw09_SnapInstalls.j0 k true a0_0 a0_1 l0_2 a0_3 t235 t236 t237 t240 t242 t243 t244 t247) else (if t249 = t258 then ((rialtoref08_Same.f k t235 t236 t237 t240 a0_0 a0_1 l0_2 a0_3).bind fun t261 => (rialtolaw09_SnapInstalls.j0 k (!t261) a0_0 a0_1 l0_2 a0_3 t235 t236 t237 t240 t242 t243 t244 t247)) else (rialtolaw09_SnapInstalls.j0 k true a0_0 a0_1 l0_2 a0_3 t235 t236 t237 t240 t242 t243 t244 t247))) else (rialtolaw09_SnapInstalls.j0 k true a0_0 a0_1 l0_2 a0_3 t235 t236 t237 t240 t242 t243 t244 t247))) = some r := H
  have A5 := Aside0.mk A50
  clear A50
  have HC6 := Aside0.mk H
  clear H
  go_enter Try.func4, Try.ntmps4
  go_upto_region 4 with (first | ((with_reducible refine gate_dst (N := 2) rfl ?_); refine box_event ?hg (N := 2) ?hd (cs := #[.int .i64 a0_0, .int .i64 a0_1, .slice A0_2 l0_2.length c0_2, .int .i64 a0_3]) (t := 26) ?hr ?_; (case hd => rfl); (case hg => rfl); (case hr => first | (go_simp; done) | (go_simp; rfl)); intro gb233 hg w7 hbox hb; have n0_ := Aside0.mk (below_step (by repeat (first | (with_reducible first | exact HB.out | apply below_alloc | apply pw_below_drewN | apply below_drew1) | exact HB.out)) hb); have n1_ := Aside0.mk (hbox); have n2_ := Aside0.mk ((by rw [hg]; exact (below_size (by repeat (first | (with_reducible first | exact HB.out | apply below_alloc | apply pw_below_drewN | apply below_drew1) | exact HB.out))) : w.heap.size ≤ gb233)); have n3_ := Aside0.mk ((by rw [hg]; exact (below_size (by repeat (first | (with_reducible first | exact HB.out | apply below_alloc | apply pw_below_drewN | apply below_drew1) | exact HB.out))) : w.heap.size ≤ gb233)); clear HB; have HB := n0_; have BK233 := n1_; have GW233 := n2_; have GE233 := n3_; clear n0_ n1_ n2_ n3_; clear hb hbox hg) | ((with_reducible refine gate_dst (N := 3) rfl ?_); refine box_event ?hg (N := 3) ?hd (cs := #[.int .i64 a1_0, .int .i64 a1_1]) (t := 23) ?hr ?_; (case hd => rfl); (case hg => rfl); (case hr => first | (go_simp; done) | (go_simp; rfl)); intro gb234 hg w8 hbox hb; have n0_ := Aside0.mk (blk_below (g := gb233) (o := .cells #[.int .i64 a0_0, .int .i64 a0_1, .slice A0_2 l0_2.length c0_2, .int .i64 a0_3] 26 (0, 0)) (by (with_reducible repeat (first | refine blk_drewN ?_ _ | refine blk_drew ?_ | refine blk_alloc ?_ _)); exact BK233.out) hb); have n1_ := Aside0.mk (below_step (by repeat (first | (with_reducible first | exact HB.out | apply below_alloc | apply pw_below_drewN | apply below_drew1 | refine below_set ?_ GE233.out) | exact HB.out)) hb); have n2_ := Aside0.mk (hbox); have n3_ := Aside0.mk ((by rw [hg]; exact (below_size (by repeat (first | (with_reducible first | exact HB.out | apply below_alloc | apply pw_below_drewN | apply below_drew1 | refine below_set ?_ GE233.out) | exact HB.out))) : w.heap.size ≤ gb234)); have n4_ := Aside0.mk ((by rw [hg]; exact (below_size (by repeat (first | (with_reducible first | exact HB.out | apply below_alloc | apply pw_below_drewN | apply below_drew1 | refine below_set ?_ GE233.out) | exact HB.out))) : w.heap.size ≤ gb234)); have n5_ := Aside0.mk ((by rw [hg]; exact Nat.ne_of_lt (blk_lt (g := gb233) (o := .cells #[.int .i64 a0_0, .int .i64 a0_1, .slice A0_2 l0_2.length c0_2, .int .i64 a0_3] 26 (0, 0)) (by (with_reducible repeat (first | refine blk_drewN ?_ _ | refine blk_drew ?_ | refine blk_alloc ?_ _)); exact BK233.out)) : gb233 ≠ gb234)); have n6_ := Aside0.mk ((by rw [hg]; exact Nat.ne_of_gt (blk_lt (g := gb233) (o := .cells #[.int .i64 a0_0, .int .i64 a0_1, .slice A0_2 l0_2.length c0_2, .int .i64 a0_3] 26 (0, 0)) (by (with_reducible repeat (first | refine blk_drewN ?_ _ | refine blk_drew ?_ | refine blk_alloc ?_ _)); exact BK233.out)) : gb234 ≠ gb233)); clear BK233; clear HB; have BK233 := n0_; have HB := n1_; have BK234 := n2_; have GW234 := n3_; have GE234 := n4_; have NB233_234 := n5_; have NB234_233 := n6_; clear n0_ n1_ n2_ n3_ n4_ n5_ n6_; clear hb hbox hg; have hnb9 := NB233_234.out; have hnc9 := NB234_233.out; have hcz10_0 : w8.cell? ⟨gb233, 0, none⟩ = some (.int .i64 a0_0) := (blk_cell BK233.out 0).trans rfl; have hcz10_1 : w8.cell? ⟨gb233, 1, none⟩ = some (.int .i64 a0_1) := (blk_cell BK233.out 1).trans rfl; have hcz10_2 : w8.cell? ⟨gb233, 2, none⟩ = some (.slice A0_2 l0_2.length c0_2) := (blk_cell BK233.out 2).trans rfl; have hcz10_3 : w8.cell? ⟨gb233, 3, none⟩ = some (.int .i64 a0_3) := (blk_cell BK233.out 3).trans rfl; have hfz10_0 := blk_frozen BK233.out 0; have hfz10_1 := blk_frozen BK233.out 1; have hfz10_2 := blk_frozen BK233.out 2; have hfz10_3 := blk_frozen BK233.out 3) | ((with_reducible refine gate_callee (f := 13) rfl ?_); refine goesL_ (some 14) rfl rfl Try.func13 (by kernel_rfl) rfl #[.agg #[.int .i64 a0_0, .int .i64 a0_1, .slice A0_2 l0_2.length c0_2, .int .i64 a0_3]] rfl (by (try simp only [List.map_toArray, List.map_cons, List.map_nil]); first | done | rfl | (simp only [List.length_drop, List.length_take]; rfl)) ?_; (with_reducible refine (rialtoref08_Copy.calls a0_0 a0_1 _ _ l0_2 a0_3 t235 t236 t237 t240 _ ?side1 ?side2 A3.out).mono ?_); (case side1 => repeat (first | exact (Kd.C_below HR0_2.out HB.out) | (with_reducible refine Kd.C_alloc ?_ _) | (with_reducible refine Kd.C_drewN ?_ _) | (with_reducible refine Kd.C_drew ?_))); (case side2 => exact HC0_2.out); rintro e w11 ⟨v238, rfl, ho0, hb⟩; refine ⟨_, rfl, ?_⟩; have n0_ := Aside0.mk (Kd.R_lower ho0 (below_size (by repeat (first | (with_reducible first | exact HB.out | apply below_alloc | apply pw_below_drewN | apply below_drew1 | refine below_set ?_ GE233.out | refine below_set ?_ GE234.out) | exact HB.out)))); have n1_ := Aside0.mk (blk_below (g := gb233) (o := .cells #[.int .i64 a0_0, .int .i64 a0_1, .slice A0_2 l0_2.length c0_2, .int .i64 a0_3] 26 (0, 0)) (by (with_reducible repeat (first | refine blk_drewN ?_ _ | refine blk_drew ?_ | refine blk_alloc ?_ _)); exact BK233.out) hb); have n2_ := Aside0.mk (blk_below (g := gb234) (o := .cells #[.int .i64 a1_0, .int .i64 a1_1] 23 (0, 0)) (by (with_reducible repeat (first | refine blk_drewN ?_ _ | refine blk_drew ?_ | refine blk_alloc ?_ _)); exact BK234.out) hb); have n3_ := Aside0.mk (below_step (by repeat (first | (with_reducible first | exact HB.out | apply below_alloc | apply pw_below_drewN | apply below_drew1 | refine below_set ?_ GE233.out | refine below_set ?_ GE234.out) | exact HB.out)) hb); clear BK233; clear BK234; clear HB; have HO239 := n0_; have BK233 := n1_; have BK234 := n2_; have HB := n3_; clear n0_ n1_ n2_ n3_; (try clear hb); (try clear hb2); (try clear hk); (try clear hi); (try clear ho0)) | ((with_reducible refine gate_dst (N := 5) rfl ?_); refine box_event ?hg (N := 5) ?hd (cs := #[.int .i64 0, .int .i64 0, .slice none 0 0, .int .i64 0]) (t := 26) ?hr ?_; (case hd => rfl); (case hg => rfl); (case hr => first | (go_simp; done) | (go_simp; rfl)); intro gb241 hg w12 hbox hb; have n0_ := Aside0.mk (Kd.R_below (by (with_reducible repeat (first | apply Kd.R_alloc | apply Kd.R_drewN | apply Kd.R_drew)); exact HO239.out) hb); have n1_ := Aside0.mk (blk_below (g := gb233) (o := .cells #[.int .i64 a0_0, .int .i64 a0_1, .slice A0_2 l0_2.length c0_2, .int .i64 a0_3] 26 (0, 0)) (by (with_reducible repeat (first | refine blk_drewN ?_ _ | refine blk_drew ?_ | refine blk_alloc ?_ _)); exact BK233.out) hb); have n2_ := Aside0.mk (blk_below (g := gb234) (o := .cells #[.int .i64 a1_0, .int .i64 a1_1] 23 (0, 0)) (by (with_reducible repeat (first | refine blk_drewN ?_ _ | refine blk_drew ?_ | refine blk_alloc ?_ _)); exact BK234.out) hb); have n3_ := Aside0.mk (below_step (by repeat (first | (with_reducible first | exact HB.out | apply below_alloc | apply pw_below_drewN | apply below_drew1 | refine below_set ?_ GE233.out | refine below_set ?_ GE234.out) | exact HB.out)) hb); have n4_ := Aside0.mk (hbox); have n5_ := Aside0.mk ((by rw [hg]; exact (below_size (by repeat (first | (with_reducible first | exact HB.out | apply below_alloc | apply pw_below_drewN | apply below_drew1 | refine below_set ?_ GE233.out | refine below_set ?_ GE234.out) | exact HB.out))) : w.heap.size ≤ gb241)); have n6_ := Aside0.mk ((by rw [hg]; exact (below_size (by repeat (first | (with_reducible first | exact HB.out | apply below_alloc | apply pw_below_drewN | apply below_drew1 | refine below_set ?_ GE233.out | refine below_set ?_ GE234.out) | exact HB.out))) : w.heap.size ≤ gb241)); have n7_ := Aside0.mk ((by rw [hg]; exact Nat.ne_of_lt (blk_lt (g := gb233) (o := .cells #[.int .i64 a0_0, .int .i64 a0_1, .slice A0_2 l0_2.length c0_2, .int .i64 a0_3] 26 (0, 0)) (by (with_reducible repeat (first | refine blk_drewN ?_ _ | refine blk_drew ?_ | refine blk_alloc ?_ _)); exact BK233.out)) : gb233 ≠ gb241)); have n8_ := Aside0.mk ((by rw [hg]; exact Nat.ne_of_gt (blk_lt (g := gb233) (o := .cells #[.int .i64 a0_0, .int .i64 a0_1, .slice A0_2 l0_2.length c0_2, .int .i64 a0_3] 26 (0, 0)) (by (with_reducible repeat (first | refine blk_drewN ?_ _ | refine blk_drew ?_ | refine blk_alloc ?_ _)); exact BK233.out)) : gb241 ≠ gb233)); have n9_ := Aside0.mk ((by rw [hg]; exact Nat.ne_of_lt (blk_lt (g := gb234) (o := .cells #[.int .i64 a1_0, .int .i64 a1_1] 23 (0, 0)) (by (with_reducible repeat (first | refine blk_drewN ?_ _ | refine blk_drew ?_ | refine blk_alloc ?_ _)); exact BK234.out)) : gb234 ≠ gb241)); have n10_ := Aside0.mk ((by rw [hg]; exact Nat.ne_of_gt (blk_lt (g := gb234) (o := .cells #[.int .i64 a1_0, .int .i64 a1_1] 23 (0, 0)) (by (with_reducible repeat (first | refine blk_drewN ?_ _ | refine blk_drew ?_ | refine blk_alloc ?_ _)); exact BK234.out)) : gb241 ≠ gb234)); clear HO239; clear BK233; clear BK234; clear HB; have HO239 := n0_; have BK233 := n1_; have BK234 := n2_; have HB := n3_; have BK241 := n4_; have GW241 := n5_; have GE241 := n6_; have NB233_241 := n7_; have NB241_233 := n8_; have NB234_241 := n9_; have NB241_234 := n10_; clear n0_ n1_ n2_ n3_ n4_ n5_ n6_ n7_ n8_ n9_ n10_; clear hb hbox hg; have hnb13 := NB241_233.out; have hnc13 := NB233_241.out; have hnb14 := NB241_234.out; have hnc14 := NB234_241.out; have hcz15_0 : w12.cell? ⟨gb241, 0, none⟩ = some (.int .i64 0) := (blk_cell BK241.out 0).trans rfl; have hcz15_1 : w12.cell? ⟨gb241, 1, none⟩ = some (.int .i64 0) := (blk_cell BK241.out 1).trans rfl; have hcz15_2 : w12.cell? ⟨gb241, 2, none⟩ = some (.slice none 0 0) := (blk_cell BK241.out 2).trans rfl; have hcz15_3 : w12.cell? ⟨gb241, 3, none⟩ = some (.int .i64 0) := (blk_cell BK241.out 3).trans rfl; have hfz15_0 := blk_frozen BK241.out 0; have hfz15_1 := blk_frozen BK241.out 1; have hfz15_2 := blk_frozen BK241.out 2; have hfz15_3 := blk_frozen BK241.out 3; obtain ⟨Ao16, co16, eo16⟩ := Kd.R_slice HO239.out; subst eo16; have hcz17_0 : w12.cell? ⟨gb234, 0, none⟩ = some (.int .i64 a1_0) := (blk_cell BK234.out 0).trans rfl; have hcz17_1 : w12.cell? ⟨gb234, 1, none⟩ = some (.int .i64 a1_1) := (blk_cell BK234.out 1).trans rfl; have hfz17_0 := blk_frozen BK234.out 0; have hfz17_1 := blk_frozen BK234.out 1) | ((with_reducible refine gate_callee (f := 18) rfl ?_); refine goesL_ (some 18) rfl rfl Try.func18 (by kernel_rfl) rfl #[.agg #[.int .i64 t235, .int .i64 t236, .slice Ao16 t237.length co16, .int .i64 t240], .agg #[.int .i64 a1_0, .int .i64 a1_1]] rfl (by (try simp only [List.map_toArray, List.map_cons, List.map_nil]); first | done | rfl | (simp only [List.length_drop, List.length_take]; rfl)) ?_; (with_reducible refine (snap_Install.calls k t235 t236 _ _ t237 t240 a1_0 a1_1 t242 t243 t244 t247 t248 t249 _ ?side1 ?side2 A4.out).mono ?_); (case side1 => refine (Kd.R_reads' (e := 33) (base := w.heap.size) (ok := fun k_ => True) (n := t237.length) (c := co16) ?_).2.2; exact (by (with_reducible repeat (first | apply Kd.R_alloc | apply Kd.R_drewN | apply Kd.R_drew)); exact (Kd.R_mono (Kd.R_far (p := ⟨gb241, 3, none⟩) (Kd.R_far (p := ⟨gb241, 2, none⟩) (Kd.R_far (p := ⟨gb241, 1, none⟩) (Kd.R_far (p := ⟨gb241, 0, none⟩) (Kd.R_types HO239.out BK241.out (by decide)) (fun _ hk => hk.2) (.int .i64 t235)) (fun _ hk => hk.2) (.int .i64 t236)) (fun _ hk => hk.2) (.slice Ao16 t237.length co16)) (fun _ hk => hk.2) (.int .i64 t240)) (fun _ h_ => h_.1)))); (case side2 => exact (Kd.R_reads' HO239.out).2.1); rintro e w18 ⟨v245, rfl, ho0, hb⟩; refine ⟨_, rfl, ?_⟩; have n0_ := Aside0.mk (Kd.R_elder' (by (with_reducible repeat (first | apply Kd.R_alloc | apply Kd.R_drewN | apply Kd.R_drew)); exact (Kd.R_mono (Kd.R_far (p := ⟨gb241, 3, none⟩) (Kd.R_far (p := ⟨gb241, 2, none⟩) (Kd.R_far (p := ⟨gb241, 1, none⟩) (Kd.R_far (p := ⟨gb241, 0, none⟩) (Kd.R_types HO239.out BK241.out (by decide)) (fun _ hk => hk.2) (.int .i64 t235)) (fun _ hk => hk.2) (.int .i64 t236)) (fun _ hk => hk.2) (.slice Ao16 t237.length co16)) (fun _ hk => hk.2) (.int .i64 t240)) (fun _ h_ => h_.1))) (Kd.R_base ho0) hb); have n1_ := Aside0.mk (Kd.R_lower (Kd.R_new' ho0 (Kd.R_lt (by (with_reducible repeat (first | apply Kd.R_alloc | apply Kd.R_drewN | apply Kd.R_drew)); exact (Kd.R_mono (Kd.R_far (p := ⟨gb241, 3, none⟩) (Kd.R_far (p := ⟨gb241, 2, none⟩) (Kd.R_far (p := ⟨gb241, 1, none⟩) (Kd.R_far (p := ⟨gb241, 0, none⟩) (Kd.R_types HO239.out BK241.out (by decide)) (fun _ hk => hk.2) (.int .i64 t235)) (fun _ hk => hk.2) (.int .i64 t236)) (fun _ hk => hk.2) (.slice Ao16 t237.length co16)) (fun _ hk => hk.2) (.int .i64 t240)) (fun _ h_ => h_.1))))) (below_size (by repeat (first | (with_reducible first | exact HB.out | apply below_alloc | apply pw_below_drewN | apply below_drew1 | refine below_set ?_ GE233.out | refine below_set ?_ GE234.out | refine below_set ?_ GE241.out) | exact HB.out)))); have n2_ := Aside0.mk (blk_below (g := gb233) (o := .cells #[.int .i64 a0_0, .int .i64 a0_1, .slice A0_2 l0_2.length c0_2, .int .i64 a0_3] 26 (0, 0)) (by (with_reducible repeat (first | refine blk_drewN ?_ _ | refine blk_drew ?_ | refine blk_alloc ?_ _)); refine blk_far ?_ NB233_241.out _; (with_reducible repeat (first | refine blk_drewN ?_ _ | refine blk_drew ?_ | refine blk_alloc ?_ _)); refine blk_far ?_ NB233_241.out _; (with_reducible repeat (first | refine blk_drewN ?_ _ | refine blk_drew ?_ | refine blk_alloc ?_ _)); refine blk_far ?_ NB233_241.out _; (with_reducible repeat (first | refine blk_drewN ?_ _ | refine blk_drew ?_ | refine blk_alloc ?_ _)); refine blk_far ?_ NB233_241.out _; (with_reducible repeat (first | refine blk_drewN ?_ _ | refine blk_drew ?_ | refine blk_alloc ?_ _)); exact BK233.out) hb); have n3_ := Aside0.mk (blk_below (g := gb234) (o := .cells #[.int .i64 a1_0, .int .i64 a1_1] 23 (0, 0)) (by (with_reducible repeat (first | refine blk_drewN ?_ _ | refine blk_drew ?_ | refine blk_alloc ?_ _)); refine blk_far ?_ NB234_241.out _; (with_reducible repeat (first | refine blk_drewN ?_ _ | refine blk_drew ?_ | refine blk_alloc ?_ _)); refine blk_far ?_ NB234_241.out _; (with_reducible repeat (first | refine blk_drewN ?_ _ | refine blk_drew ?_ | refine blk_alloc ?_ _)); refine blk_far ?_ NB234_241.out _; (with_reducible repeat (first | refine blk_drewN ?_ _ | refine blk_drew ?_ | refine blk_alloc ?_ _)); refine blk_far ?_ NB234_241.out _; (with_reducible repeat (first | refine blk_drewN ?_ _ | refine blk_drew ?_ | refine blk_alloc ?_ _)); exact BK234.out) hb); have n4_ := Aside0.mk (blk_below (g := gb241) (o := .cells #[.int .i64 t235, .int .i64 t236, .slice Ao16 t237.length co16, .int .i64 t240] 26 (0, 0)) (by (with_reducible repeat (first | refine blk_drewN ?_ _ | refine blk_drew ?_ | refine blk_alloc ?_ _)); refine blk_put (cs := #[.int .i64 t235, .int .i64 t236, .slice Ao16 t237.length co16, .int .i64 0]) ?_ 3 _ rfl; (with_reducible repeat (first | refine blk_drewN ?_ _ | refine blk_drew ?_ | refine blk_alloc ?_ _)); refine blk_put (cs := #[.int .i64 t235, .int .i64 t236, .slice none 0 0, .int .i64 0]) ?_ 2 _ rfl; (with_reducible repeat (first | refine blk_drewN ?_ _ | refine blk_drew ?_ | refine blk_alloc ?_ _)); refine blk_put (cs := #[.int .i64 t235, .int .i64 0, .slice none 0 0, .int .i64 0]) ?_ 1 _ rfl; (with_reducible repeat (first | refine blk_drewN ?_ _ | refine blk_drew ?_ | refine blk_alloc ?_ _)); refine blk_put (cs := #[.int .i64 0, .int .i64 0, .slice none 0 0, .int .i64 0]) ?_ 0 _ rfl; (with_reducible repeat (first | refine blk_drewN ?_ _ | refine blk_drew ?_ | refine blk_alloc ?_ _)); exact BK241.out) hb); have n5_ := Aside0.mk (below_step (by repeat (first | (with_reducible first | exact HB.out | apply below_alloc | apply pw_below_drewN | apply below_drew1 | refine below_set ?_ GE233.out | refine below_set ?_ GE234.out | refine below_set ?_ GE241.out) | exact HB.out)) hb); clear HO239; clear BK233; clear BK234; clear BK241; clear HB; have HO239 := n0_; have HO246 := n1_; have BK233 := n2_; have BK234 := n3_; have BK241 := n4_; have HB := n5_; clear n0_ n1_ n2_ n3_ n4_ n5_; (try clear hb); (try clear hb2); (try clear hk); (try clear hi); (try clear ho0)) | ((with_reducible refine gate_dst (N := 6) rfl ?_); refine box_event ?hg (N := 6) ?hd (cs := #[.int .i64 0, .int .i64 0, .slice none 0 0, .int .i64 0]) (t := 26) ?hr ?_; (case hd => rfl); (case hg => rfl); (case hr => first | (go_simp; done) | (go_simp; rfl)); intro gb250 hg w19 hbox hb; have n0_ := Aside0.mk (Kd.R_below (by (with_reducible repeat (first | apply Kd.R_alloc | apply Kd.R_drewN | apply Kd.R_drew)); exact HO239.out) hb); have n1_ := Aside0.mk (Kd.R_below (by (with_reducible repeat (first | apply Kd.R_alloc | apply Kd.R_drewN | apply Kd.R_drew)); exact HO246.out) hb); have n2_ := Aside0.mk (blk_below (g := gb233) (o := .cells #[.int .i64 a0_0, .int .i64 a0_1, .slice A0_2 l0_2.length c0_2, .int .i64 a0_3] 26 (0, 0)) (by (with_reducible repeat (first | refine blk_drewN ?_ _ | refine blk_drew ?_ | refine blk_alloc ?_ _)); exact BK233.out) hb); have n3_ := Aside0.mk (blk_below (g := gb234) (o := .cells #[.int .i64 a1_0, .int .i64 a1_1] 23 (0, 0)) (by (with_reducible repeat (first | refine blk_drewN ?_ _ | refine blk_drew ?_ | refine blk_alloc ?_ _)); exact BK234.out) hb); have n4_ := Aside0.mk (blk_below (g := gb241) (o := .cells #[.int .i64 t235, .int .i64 t236, .slice Ao16 t237.length co16, .int .i64 t240] 26 (0, 0)) (by (with_reducible repeat (first | refine blk_drewN ?_ _ | refine blk_drew ?_ | refine blk_alloc ?_ _)); exact BK241.out) hb); have n5_ := Aside0.mk (below_step (by repeat (first | (with_reducible first | exact HB.out | apply below_alloc | apply pw_below_drewN | apply below_drew1 | refine below_set ?_ GE233.out | refine below_set ?_ GE234.out | refine below_set ?_ GE241.out) | exact HB.out)) hb); have n6_ := Aside0.mk (hbox); have n7_ := Aside0.mk ((by rw [hg]; exact (below_size (by repeat (first | (with_reducible first | exact HB.out | apply below_alloc | apply pw_below_drewN | apply below_drew1 | refine below_set ?_ GE233.out | refine below_set ?_ GE234.out | refine below_set ?_ GE241.out) | exact HB.out))) : w.heap.size ≤ gb250)); have n8_ := Aside0.mk ((by rw [hg]; exact (below_size (by repeat (first | (with_reducible first | exact HB.out | apply below_alloc | apply pw_below_drewN | apply below_drew1 | refine below_set ?_ GE233.out | refine below_set ?_ GE234.out | refine below_set ?_ GE241.out) | exact HB.out))) : w.heap.size ≤ gb250)); have n9_ := Aside0.mk ((by rw [hg]; exact Nat.ne_of_lt (blk_lt (g := gb233) (o := .cells #[.int .i64 a0_0, .int .i64 a0_1, .slice A0_2 l0_2.length c0_2, .int .i64 a0_3] 26 (0, 0)) (by (with_reducible repeat (first | refine blk_drewN ?_ _ | refine blk_drew ?_ | refine blk_alloc ?_ _)); exact BK233.out)) : gb233 ≠ gb250)); have n10_ := Aside0.mk ((by rw [hg]; exact Nat.ne_of_gt (blk_lt (g := gb233) (o := .cells #[.int .i64 a0_0, .int .i64 a0_1, .slice A0_2 l0_2.length c0_2, .int .i64 a0_3] 26 (0, 0)) (by (with_reducible repeat (first | refine blk_drewN ?_ _ | refine blk_drew ?_ | refine blk_alloc ?_ _)); exact BK233.out)) : gb250 ≠ gb233)); have n11_ := Aside0.mk ((by rw [hg]; exact Nat.ne_of_lt (blk_lt (g := gb234) (o := .cells #[.int .i64 a1_0, .int .i64 a1_1] 23 (0, 0)) (by (with_reducible repeat (first | refine blk_drewN ?_ _ | refine blk_drew ?_ | refine blk_alloc ?_ _)); exact BK234.out)) : gb234 ≠ gb250)); have n12_ := Aside0.mk ((by rw [hg]; exact Nat.ne_of_gt (blk_lt (g := gb234) (o := .cells #[.int .i64 a1_0, .int .i64 a1_1] 23 (0, 0)) (by (with_reducible repeat (first | refine blk_drewN ?_ _ | refine blk_drew ?_ | refine blk_alloc ?_ _)); exact BK234.out)) : gb250 ≠ gb234)); have n13_ := Aside0.mk ((by rw [hg]; exact Nat.ne_of_lt (blk_lt (g := gb241) (o := .cells #[.int .i64 t235, .int .i64 t236, .slice Ao16 t237.length co16, .int .i64 t240] 26 (0, 0)) (by (with_reducible repeat (first | refine blk_drewN ?_ _ | refine blk_drew ?_ | refine blk_alloc ?_ _)); exact BK241.out)) : gb241 ≠ gb250)); have n14_ := Aside0.mk ((by rw [hg]; exact Nat.ne_of_gt (blk_lt (g := gb241) (o := .cells #[.int .i64 t235, .int .i64 t236, .slice Ao16 t237.length co16, .int .i64 t240] 26 (0, 0)) (by (with_reducible repeat (first | refine blk_drewN ?_ _ | refine blk_drew ?_ | refine blk_alloc ?_ _)); exact BK241.out)) : gb250 ≠ gb241)); clear HO239; clear HO246; clear BK233; clear BK234; clear BK241; clear HB; have HO239 := n0_; have HO246 := n1_; have BK233 := n2_; have BK234 := n3_; have BK241 := n4_; have HB := n5_; have BK250 := n6_; have GW250 := n7_; have GE250 := n8_; have NB233_250 := n9_; have NB250_233 := n10_; have NB234_250 := n11_; have NB250_234 := n12_; have NB241_250 := n13_; have NB250_241 := n14_; clear n0_ n1_ n2_ n3_ n4_ n5_ n6_ n7_ n8_ n9_ n10_ n11_ n12_ n13_ n14_; clear hb hbox hg; have hnb20 := NB250_233.out; have hnc20 := NB233_250.out; have hnb21 := NB250_234.out; have hnc21 := NB234_250.out; have hnb22 := NB250_241.out; have hnc22 := NB241_250.out; have hcz23_0 : w19.cell? ⟨gb250, 0, none⟩ = some (.int .i64 0) := (blk_cell BK250.out 0).trans rfl; have hcz23_1 : w19.cell? ⟨gb250, 1, none⟩ = some (.int .i64 0) := (blk_cell BK250.out 1).trans rfl; have hcz23_2 : w19.cell? ⟨gb250, 2, none⟩ = some (.slice none 0 0) := (blk_cell BK250.out 2).trans rfl; have hcz23_3 : w19.cell? ⟨gb250, 3, none⟩ = some (.int .i64 0) := (blk_cell BK250.out 3).trans rfl; have hfz23_0 := blk_frozen BK250.out 0; have hfz23_1 := blk_frozen BK250.out 1; have hfz23_2 := blk_frozen BK250.out 2; have hfz23_3 := blk_frozen BK250.out 3; obtain ⟨Ao24, co24, eo24⟩ := Kd.R_slice HO246.out; subst eo24; have hcz25_0 : w19.cell? ⟨gb233, 0, none⟩ = some (.int .i64 a0_0) := (blk_cell BK233.out 0).trans rfl; have hcz25_1 : w19.cell? ⟨gb233, 1, none⟩ = some (.int .i64 a0_1) := (blk_cell BK233.out 1).trans rfl; have hcz25_2 : w19.cell? ⟨gb233, 2, none⟩ = some (.slice A0_2 l0_2.length c0_2) := (blk_cell BK233.out 2).trans rfl; have hcz25_3 : w19.cell? ⟨gb233, 3, none⟩ = some (.int .i64 a0_3) := (blk_cell BK233.out 3).trans rfl; have hfz25_0 := blk_frozen BK233.out 0; have hfz25_1 := blk_frozen BK233.out 1; have hfz25_2 := blk_frozen BK233.out 2; have hfz25_3 := blk_frozen BK233.out 3; have hcz26_0 : w19.cell? ⟨gb234, 0, none⟩ = some (.int .i64 a1_0) := (blk_cell BK234.out 0).trans rfl; have hcz26_1 : w19.cell? ⟨gb234, 1, none⟩ = some (.int .i64 a1_1) := (blk_cell BK234.out 1).trans rfl; have hfz26_0 := blk_frozen BK234.out 0; have hfz26_1 := blk_frozen BK234.out 1) | ((with_reducible refine gate_callee (f := 19) rfl ?_); refine goesL_ (some 25) rfl rfl Try.func19 (by kernel_rfl) rfl #[.agg #[.int .i64 a0_0, .int .i64 a0_1, .slice A0_2 l0_2.length c0_2, .int .i64 a0_3], .agg #[.int .i64 a1_0, .int .i64 a1_1]] rfl (by (try simp only [List.map_toArray, List.map_cons, List.map_nil]); first | done | rfl | (simp only [List.length_drop, List.length_take]; rfl)) ?_; (with_reducible refine (rialtoref09_Install.calls k a0_0 a0_1 _ _ l0_2 a0_3 a1_0 a1_1 t251 t252 t253 t256 t257 t258 _ ?side1 ?side2 A5.out).mono ?_); (case side1 => exact Kd.C_below HR0_2.out (by repeat (first | (with_reducible first | exact HB.out | apply below_alloc | apply pw_below_drewN | apply below_drew1 | refine below_set ?_ GE233.out | refine below_set ?_ GE234.out | refine below_set ?_ GE241.out | refine below_set ?_ GE250.out) | exact HB.out))); (case side2 => exact HC0_2.out); rintro e w27 ⟨v254, rfl, ho0, hb⟩; refine ⟨_, rfl, ?_⟩; have n0_ := Aside0.mk (Kd.R_elder' (by (with_reducible repeat (first | apply Kd.R_alloc | apply Kd.R_drewN | apply Kd.R_drew)); exact (Kd.R_mono (Kd.R_far (p := ⟨gb250, 3, none⟩) (Kd.R_far (p := ⟨gb250, 2, none⟩) (Kd.R_far (p := ⟨gb250, 1, none⟩) (Kd.R_far (p := ⟨gb250, 0, none⟩) (Kd.R_types HO239.out BK250.out (by decide)) (fun _ hk => hk.2) (.int .i64 t242)) (fun _ hk => hk.2) (.int .i64 t243)) (fun _ hk => hk.2) (.slice Ao24 t244.length co24)) (fun _ hk => hk.2) (.int .i64 t247)) (fun _ h_ => h_.1))) (Kd.R_base ho0) hb); have n1_ := Aside0.mk (Kd.R_elder' (by (with_reducible repeat (first | apply Kd.R_alloc | apply Kd.R_drewN | apply Kd.R_drew)); exact (Kd.R_mono (Kd.R_far (p := ⟨gb250, 3, none⟩) (Kd.R_far (p := ⟨gb250, 2, none⟩) (Kd.R_far (p := ⟨gb250, 1, none⟩) (Kd.R_far (p := ⟨gb250, 0, none⟩) (Kd.R_types HO246.out BK250.out (by decide)) (fun _ hk => hk.2) (.int .i64 t242)) (fun _ hk => hk.2) (.int .i64 t243)) (fun _ hk => hk.2) (.slice Ao24 t244.length co24)) (fun _ hk => hk.2) (.int .i64 t247)) (fun _ h_ => h_.1))) (Kd.R_base ho0) hb); have n2_ := Aside0.mk (Kd.R_lower (Kd.R_new' (Kd.R_new' ho0 (Kd.R_lt (by (with_reducible repeat (first | apply Kd.R_alloc | apply Kd.R_drewN | apply Kd.R_drew)); exact (Kd.R_mono (Kd.R_far (p := ⟨gb250, 3, none⟩) (Kd.R_far (p := ⟨gb250, 2, none⟩) (Kd.R_far (p := ⟨gb250, 1, none⟩) (Kd.R_far (p := ⟨gb250, 0, none⟩) (Kd.R_types HO239.out BK250.out (by decide)) (fun _ hk => hk.2) (.int .i64 t242)) (fun _ hk => hk.2) (.int .i64 t243)) (fun _ hk => hk.2) (.slice Ao24 t244.length co24)) (fun _ hk => hk.2) (.int .i64 t247)) (fun _ h_ => h_.1))))) (Kd.R_lt (by (with_reducible repeat (first | apply Kd.R_alloc | apply Kd.R_drewN | apply Kd.R_drew)); exact (Kd.R_mono (Kd.R_far (p := ⟨gb250, 3, none⟩) (Kd.R_far (p := ⟨gb250, 2, none⟩) (Kd.R_far (p := ⟨gb250, 1, none⟩) (Kd.R_far (p := ⟨gb250, 0, none⟩) (Kd.R_types HO246.out BK250.out (by decide)) (fun _ hk => hk.2) (.int .i64 t242)) (fun _ hk => hk.2) (.int .i64 t243)) (fun _ hk => hk.2) (.slice Ao24 t244.length co24)) (fun _ hk => hk.2) (.int .i64 t247)) (fun _ h_ => h_.1))))) (below_size (by repeat (first | (with_reducible first | exact HB.out | apply below_alloc | apply pw_below_drewN | apply below_drew1 | refine below_set ?_ GE233.out | refine below_set ?_ GE234.out | refine below_set ?_ GE241.out | refine below_set ?_ GE250.out) | exact HB.out)))); have n3_ := Aside0.mk (blk_below (g := gb233) (o := .cells #[.int .i64 a0_0, .int .i64 a0_1, .slice A0_2 l0_2.length c0_2, .int .i64 a0_3] 26 (0, 0)) (by (with_reducible repeat (first | refine blk_drewN ?_ _ | refine blk_drew ?_ | refine blk_alloc ?_ _)); refine blk_far ?_ NB233_250.out _; (with_reducible repeat (first | refine blk_drewN ?_ _ | refine blk_drew ?_ | refine blk_alloc ?_ _)); refine blk_far ?_ NB233_250.out _; (with_reducible repeat (first | refine blk_drewN ?_ _ | refine blk_drew ?_ | refine blk_alloc ?_ _)); refine blk_far ?_ NB233_250.out _; (with_reducible repeat (first | refine blk_drewN ?_ _ | refine blk_drew ?_ | refine blk_alloc ?_ _)); refine blk_far ?_ NB233_250.out _; (with_reducible repeat (first | refine blk_drewN ?_ _ | refine blk_drew ?_ | refine blk_alloc ?_ _)); exact BK233.out) hb); have n4_ := Aside0.mk (blk_below (g := gb234) (o := .cells #[.int .i64 a1_0, .int .i64 a1_1] 23 (0, 0)) (by (with_reducible repeat (first | refine blk_drewN ?_ _ | refine blk_drew ?_ | refine blk_alloc ?_ _)); refine blk_far ?_ NB234_250.out _; (with_reducible repeat (first | refine blk_drewN ?_ _ | refine blk_drew ?_ | refine blk_alloc ?_ _)); refine blk_far ?_ NB234_250.out _; (with_reducible repeat (first | refine blk_drewN ?_ _ | refine blk_drew ?_ | refine blk_alloc ?_ _)); refine blk_far ?_ NB234_250.out _; (with_reducible repeat (first | refine blk_drewN ?_ _ | refine blk_drew ?_ | refine blk_alloc ?_ _)); refine blk_far ?_ NB234_250.out _; (with_reducible repeat (first | refine blk_drewN ?_ _ | refine blk_drew ?_ | refine blk_alloc ?_ _)); exact BK234.out) hb); have n5_ := Aside0.mk (blk_below (g := gb241) (o := .cells #[.int .i64 t235, .int .i64 t236, .slice Ao16 t237.length co16, .int .i64 t240] 26 (0, 0)) (by (with_reducible repeat (first | refine blk_drewN ?_ _ | refine blk_drew ?_ | refine blk_alloc ?_ _)); refine blk_far ?_ NB241_250.out _; (with_reducible repeat (first | refine blk_drewN ?_ _ | refine blk_drew ?_ | refine blk_alloc ?_ _)); refine blk_far ?_ NB241_250.out _; (with_reducible repeat (first | refine blk_drewN ?_ _ | refine blk_drew ?_ | refine blk_alloc ?_ _)); refine blk_far ?_ NB241_250.out _; (with_reducible repeat (first | refine blk_drewN ?_ _ | refine blk_drew ?_ | refine blk_alloc ?_ _)); refine blk_far ?_ NB241_250.out _; (with_reducible repeat (first | refine blk_drewN ?_ _ | refine blk_drew ?_ | refine blk_alloc ?_ _)); exact BK241.out) hb); have n6_ := Aside0.mk (blk_below (g := gb250) (o := .cells #[.int .i64 t242, .int .i64 t243, .slice Ao24 t244.length co24, .int .i64 t247] 26 (0, 0)) (by (with_reducible repeat (first | refine blk_drewN ?_ _ | refine blk_drew ?_ | refine blk_alloc ?_ _)); refine blk_put (cs := #[.int .i64 t242, .int .i64 t243, .slice Ao24 t244.length co24, .int .i64 0]) ?_ 3 _ rfl; (with_reducible repeat (first | refine blk_drewN ?_ _ | refine blk_drew ?_ | refine blk_alloc ?_ _)); refine blk_put (cs := #[.int .i64 t242, .int .i64 t243, .slice none 0 0, .int .i64 0]) ?_ 2 _ rfl; (with_reducible repeat (first | refine blk_drewN ?_ _ | refine blk_drew ?_ | refine blk_alloc ?_ _)); refine blk_put (cs := #[.int .i64 t242, .int .i64 0, .slice none 0 0, .int .i64 0]) ?_ 1 _ rfl; (with_reducible repeat (first | refine blk_drewN ?_ _ | refine blk_drew ?_ | refine blk_alloc ?_ _)); refine blk_put (cs := #[.int .i64 0, .int .i64 0, .slice none 0 0, .int .i64 0]) ?_ 0 _ rfl; (with_reducible repeat (first | refine blk_drewN ?_ _ | refine blk_drew ?_ | refine blk_alloc ?_ _)); exact BK250.out) hb); have n7_ := Aside0.mk (below_step (by repeat (first | (with_reducible first | exact HB.out | apply below_alloc | apply pw_below_drewN | apply below_drew1 | refine below_set ?_ GE233.out | refine below_set ?_ GE234.out | refine below_set ?_ GE241.out | refine below_set ?_ GE250.out) | exact HB.out)) hb); clear HO239; clear HO246; clear BK233; clear BK234; clear BK241; clear BK250; clear HB; have HO239 := n0_; have HO246 := n1_; have HO255 := n2_; have BK233 := n3_; have BK234 := n4_; have BK241 := n5_; have BK250 := n6_; have HB := n7_; clear n0_ n1_ n2_ n3_ n4_ n5_ n6_ n7_; (try clear hb); (try clear hb2); (try clear hk); (try clear hi); (try clear ho0)) | ((with_reducible refine gate_dst (N := 9) rfl ?_); refine box_event ?hg (N := 9) ?hd (cs := #[.int .i64 0, .int .i64 0, .slice none 0 0, .int .i64 0]) (t := 26) ?hr ?_; (case hd => rfl); (case hg => rfl); (case hr => first | (go_simp; done) | (go_simp; rfl)); intro gb259 hg w28 hbox hb; have n0_ := Aside0.mk (Kd.R_below (by (with_reducible repeat (first | apply Kd.R_alloc | apply Kd.R_drewN | apply Kd.R_drew)); exact HO239.out) hb); have n1_ := Aside0.mk (Kd.R_below (by (with_reducible repeat (first | apply Kd.R_alloc | apply Kd.R_drewN | apply Kd.R_drew)); exact HO246.out) hb); have n2_ := Aside0.mk (Kd.R_below (by (with_reducible repeat (first | apply Kd.R_alloc | apply Kd.R_drewN | apply Kd.R_drew)); exact HO255.out) hb); have n3_ := Aside0.mk (blk_below (g := gb233) (o := .cells #[.int .i64 a0_0, .int .i64 a0_1, .slice A0_2 l0_2.length c0_2, .int .i64 a0_3] 26 (0, 0)) (by (with_reducible repeat (first | refine blk_drewN ?_ _ | refine blk_drew ?_ | refine blk_alloc ?_ _)); exact BK233.out) hb); have n4_ := Aside0.mk (blk_below (g := gb234) (o := .cells #[.int .i64 a1_0, .int .i64 a1_1] 23 (0, 0)) (by (with_reducible repeat (first | refine blk_drewN ?_ _ | refine blk_drew ?_ | refine blk_alloc ?_ _)); exact BK234.out) hb); have n5_ := Aside0.mk (blk_below (g := gb241) (o := .cells #[.int .i64 t235, .int .i64 t236, .slice Ao16 t237.length co16, .int .i64 t240] 26 (0, 0)) (by (with_reducible repeat (first | refine blk_drewN ?_ _ | refine blk_drew ?_ | refine blk_alloc ?_ _)); exact BK241.out) hb); have n6_ := Aside0.mk (blk_below (g := gb250) (o := .cells #[.int .i64 t242, .int .i64 t243, .slice Ao24 t244.length co24, .int .i64 t247] 26 (0, 0)) (by (with_reducible repeat (first | refine blk_drewN ?_ _ | refine blk_drew ?_ | refine blk_alloc ?_ _)); exact BK250.out) hb); have n7_ := Aside0.mk (below_step (by repeat (first | (with_reducible first | exact HB.out | apply below_alloc | apply pw_below_drewN | apply below_drew1 | refine below_set ?_ GE233.out | refine below_set ?_ GE234.out | refine below_set ?_ GE241.out | refine below_set ?_ GE250.out) | exact HB.out)) hb); have n8_ := Aside0.mk (hbox); have n9_ := Aside0.mk ((by rw [hg]; exact (below_size (by repeat (first | (with_reducible first | exact HB.out | apply below_alloc | apply pw_below_drewN | apply below_drew1 | refine below_set ?_ GE233.out | refine below_set ?_ GE234.out | refine below_set ?_ GE241.out | refine below_set ?_ GE250.out) | exact HB.out))) : w.heap.size ≤ gb259)); have n10_ := Aside0.mk ((by rw [hg]; exact (below_size (by repeat (first | (with_reducible first | exact HB.out | apply below_alloc | apply pw_below_drewN | apply below_drew1 | refine below_set ?_ GE233.out | refine below_set ?_ GE234.out | refine below_set ?_ GE241.out | refine below_set ?_ GE250.out) | exact HB.out))) : w.heap.size ≤ gb259)); have n11_ := Aside0.mk ((by rw [hg]; exact Nat.ne_of_lt (blk_lt (g := gb233) (o := .cells #[.int .i64 a0_0, .int .i64 a0_1, .slice A0_2 l0_2.length c0_2, .int .i64 a0_3] 26 (0, 0)) (by (with_reducible repeat (first | refine blk_drewN ?_ _ | refine blk_drew ?_ | refine blk_alloc ?_ _)); exact BK233.out)) : gb233 ≠ gb259)); have n12_ := Aside0.mk ((by rw [hg]; exact Nat.ne_of_gt (blk_lt (g := gb233) (o := .cells #[.int .i64 a0_0, .int .i64 a0_1, .slice A0_2 l0_2.length c0_2, .int .i64 a0_3] 26 (0, 0)) (by (with_reducible repeat (first | refine blk_drewN ?_ _ | refine blk_drew ?_ | refine blk_alloc ?_ _)); exact BK233.out)) : gb259 ≠ gb233)); have n13_ := Aside0.mk ((by rw [hg]; exact Nat.ne_of_lt (blk_lt (g := gb234) (o := .cells #[.int .i64 a1_0, .int .i64 a1_1] 23 (0, 0)) (by (with_reducible repeat (first | refine blk_drewN ?_ _ | refine blk_drew ?_ | refine blk_alloc ?_ _)); exact BK234.out)) : gb234 ≠ gb259)); have n14_ := Aside0.mk ((by rw [hg]; exact Nat.ne_of_gt (blk_lt (g := gb234) (o := .cells #[.int .i64 a1_0, .int .i64 a1_1] 23 (0, 0)) (by (with_reducible repeat (first | refine blk_drewN ?_ _ | refine blk_drew ?_ | refine blk_alloc ?_ _)); exact BK234.out)) : gb259 ≠ gb234)); have n15_ := Aside0.mk ((by rw [hg]; exact Nat.ne_of_lt (blk_lt (g := gb241) (o := .cells #[.int .i64 t235, .int .i64 t236, .slice Ao16 t237.length co16, .int .i64 t240] 26 (0, 0)) (by (with_reducible repeat (first | refine blk_drewN ?_ _ | refine blk_drew ?_ | refine blk_alloc ?_ _)); exact BK241.out)) : gb241 ≠ gb259)); have n16_ := Aside0.mk ((by rw [hg]; exact Nat.ne_of_gt (blk_lt (g := gb241) (o := .cells #[.int .i64 t235, .int .i64 t236, .slice Ao16 t237.length co16, .int .i64 t240] 26 (0, 0)) (by (with_reducible repeat (first | refine blk_drewN ?_ _ | refine blk_drew ?_ | refine blk_alloc ?_ _)); exact BK241.out)) : gb259 ≠ gb241)); have n17_ := Aside0.mk ((by rw [hg]; exact Nat.ne_of_lt (blk_lt (g := gb250) (o := .cells #[.int .i64 t242, .int .i64 t243, .slice Ao24 t244.length co24, .int .i64 t247] 26 (0, 0)) (by (with_reducible repeat (first | refine blk_drewN ?_ _ | refine blk_drew ?_ | refine blk_alloc ?_ _)); exact BK250.out)) : gb250 ≠ gb259)); have n18_ := Aside0.mk ((by rw [hg]; exact Nat.ne_of_gt (blk_lt (g := gb250) (o := .cells #[.int .i64 t242, .int .i64 t243, .slice Ao24 t244.length co24, .int .i64 t247] 26 (0, 0)) (by (with_reducible repeat (first | refine blk_drewN ?_ _ | refine blk_drew ?_ | refine blk_alloc ?_ _)); exact BK250.out)) : gb259 ≠ gb250)); clear HO239; clear HO246; clear HO255; clear BK233; clear BK234; clear BK241; clear BK250; clear HB; have HO239 := n0_; have HO246 := n1_; have HO255 := n2_; have BK233 := n3_; have BK234 := n4_; have BK241 := n5_; have BK250 := n6_; have HB := n7_; have BK259 := n8_; have GW259 := n9_; have GE259 := n10_; have NB233_259 := n11_; have NB259_233 := n12_; have NB234_259 := n13_; have NB259_234 := n14_; have NB241_259 := n15_; have NB259_241 := n16_; have NB250_259 := n17_; have NB259_250 := n18_; clear n0_ n1_ n2_ n3_ n4_ n5_ n6_ n7_ n8_ n9_ n10_ n11_ n12_ n13_ n14_ n15_ n16_ n17_ n18_; clear hb hbox hg; have hnb29 := NB259_233.out; have hnc29 := NB233_259.out; have hnb30 := NB259_234.out; have hnc30 := NB234_259.out; have hnb31 := NB259_241.out; have hnc31 := NB241_259.out; have hnb32 := NB259_250.out; have hnc32 := NB250_259.out; have hcz33_0 : w28.cell? ⟨gb259, 0, none⟩ = some (.int .i64 0) := (blk_cell BK259.out 0).trans rfl; have hcz33_1 : w28.cell? ⟨gb259, 1, none⟩ = some (.int .i64 0) := (blk_cell BK259.out 1).trans rfl; have hcz33_2 : w28.cell? ⟨gb259, 2, none⟩ = some (.slice none 0 0) := (blk_cell BK259.out 2).trans rfl; have hcz33_3 : w28.cell? ⟨gb259, 3, none⟩ = some (.int .i64 0) := (blk_cell BK259.out 3).trans rfl; have hfz33_0 := blk_frozen BK259.out 0; have hfz33_1 := blk_frozen BK259.out 1; have hfz33_2 := blk_frozen BK259.out 2; have hfz33_3 := blk_frozen BK259.out 3; obtain ⟨Ao34, co34, eo34⟩ := Kd.R_slice HO255.out; subst eo34))
  (try simp only [Act.put, List.setIfInBounds_toArray, List.set_cons_zero, List.set_cons_succ])
  go_cut [48] (fun v48 wc => ∃ (kq : Nat) (x48_5 : Bool), v48 = .bool x48_5 ∧ Aside0 (rialtolaw09_SnapInstalls.j0 kq x48_5 a0_0 a0_1 l0_2 a0_3 t235 t236 t237 t240 t242 t243 t244 t247 = some r) ∧ Aside0 (kq ≤ k) ∧ Aside0 (Kd.R k33 33 wc w.heap.size (fun k_ => some k_ ≠ ((.slice Ao24 t244.length co24) : Value).ownBlock ∧ some k_ ≠ ((.slice Ao34 t253.length co34) : Value).ownBlock) (.slice Ao16 t237.length co16) t237) ∧ Aside0 (Kd.R k33 33 wc w.heap.size (fun k_ => some k_ ≠ ((.slice Ao16 t237.length co16) : Value).ownBlock ∧ some k_ ≠ ((.slice Ao34 t253.length co34) : Value).ownBlock) (.slice Ao24 t244.length co24) t244) ∧ Aside0 (Kd.R k33 33 wc w.heap.size (fun k_ => some k_ ≠ ((.slice Ao16 t237.length co16) : Value).ownBlock ∧ some k_ ≠ ((.slice Ao24 t244.length co24) : Value).ownBlock) (.slice Ao34 t253.length co34) t253) ∧ Aside0 (wc.heap[gb233]? = some (.cells #[.int .i64 a0_0, .int .i64 a0_1, (.slice A0_2 l0_2.length c0_2), .int .i64 a0_3] 26 (0, 0))) ∧ Aside0 (wc.heap[gb234]? = some (.cells #[.int .i64 a1_0, .int .i64 a1_1] 23 (0, 0))) ∧ Aside0 (wc.heap[gb241]? = some (.cells #[.int .i64 t235, .int .i64 t236, (.slice Ao16 t237.length co16), .int .i64 t240] 26 (0, 0))) ∧ Aside0 (wc.heap[gb250]? = some (.cells #[.int .i64 t242, .int .i64 t243, (.slice Ao24 t244.length co24), .int .i64 t247] 26 (0, 0))) ∧ Aside0 (wc.heap[gb259]? = some (.cells #[.int .i64 t251, .int .i64 t252, (.slice Ao34 t253.length co34), .int .i64 t256] 26 (0, 0))) ∧ Aside0 (Below w.heap.size w wc))
  case first =>
    have H := HC6.out
    clear HC6
    replace H := Option.bind_eq_some_iff.mp H
    obtain ⟨t260, A350, H⟩ := H
    replace H : (if t260 = true then (if (t248 != t257) = true then (rialtolaw09_SnapInstalls.j0 k true a0_0 a0_1 l0_2 a0_3 t235 t236 t237 t240 t242 t243 t244 t247) else (if t249 = t258 then ((rialtoref08_Same.f k t235 t236 t237 t240 a0_0 a0_1 l0_2 a0_3).bind fun t261 => (rialtolaw09_SnapInstalls.j0 k (!t261) a0_0 a0_1 l0_2 a0_3 t235 t236 t237 t240 t242 t243 t244 t247)) else (rialtolaw09_SnapInstalls.j0 k true a0_0 a0_1 l0_2 a0_3 t235 t236 t237 t240 t242 t243 t244 t247))) else (rialtolaw09_SnapInstalls.j0 k true a0_0 a0_1 l0_2 a0_3 t235 t236 t237 t240 t242 t243 t244 t247)) = some r := H
    have A35 := Aside0.mk A350
    clear A350
    by_cases c36 : t260 = true
    · subst c36
      have H1 : (if (t248 != t257) = true then (rialtolaw09_SnapInstalls.j0 k true a0_0 a0_1 l0_2 a0_3 t235 t236 t237 t240 t242 t243 t244 t247) else (if t249 = t258 then ((rialtoref08_Same.f k t235 t236 t237 t240 a0_0 a0_1 l0_2 a0_3).bind fun t261 => (rialtolaw09_SnapInstalls.j0 k (!t261) a0_0 a0_1 l0_2 a0_3 t235 t236 t237 t240 t242 t243 t244 t247)) else (rialtolaw09_SnapInstalls.j0 k true a0_0 a0_1 l0_2 a0_3 t235 t236 t237 t240 t242 t243 t244 t247))) = some r := by rw [if_pos rfl] at H; exact H
      clear H
      have H := H1
      clear H1
      by_cases c37 : (t248 != t257) = true
      · rw [if_pos c37] at H
        have c37b0 : (t248 != t257) = true := c37
        (try (have c37b1 : decide (t248 = t257) = false := by simpa using c37))
        (try (have c37b2 : (t248 == t257) = false := by simpa using c37))
        (try (have c37b3 : ¬ (t248 = t257) := by simpa using c37))
        clear c37
        (first | rw [c37b0] | (simp only [i64_w, i32_w]; rw [c37b0]) | skip)
        have H' := Aside0.mk H
        clear H
        have hnb38 := NB250_233.out
        have hnc38 := NB233_250.out
        have hnb39 := NB250_234.out
        have hnc39 := NB234_250.out
        have hnb40 := NB250_241.out
        have hnc40 := NB241_250.out
        have hnb41 := NB250_259.out
        have hnc41 := NB259_250.out
        have hcz42_0 : w28.cell? ⟨gb250, 0, none⟩ = some (.int .i64 t242) := (blk_cell BK250.out 0).trans rfl
        have hcz42_1 : w28.cell? ⟨gb250, 1, none⟩ = some (.int .i64 t243) := (blk_cell BK250.out 1).trans rfl
        have hcz42_2 : w28.cell? ⟨gb250, 2, none⟩ = some (.slice Ao24 t244.length co24) := (blk_cell BK250.out 2).trans rfl
        have hcz42_3 : w28.cell? ⟨gb250, 3, none⟩ = some (.int .i64 t247) := (blk_cell BK250.out 3).trans rfl
        have hfz42_0 := blk_frozen BK250.out 0
        have hfz42_1 := blk_frozen BK250.out 1
        have hfz42_2 := blk_frozen BK250.out 2
        have hfz42_3 := blk_frozen BK250.out 3
        have hnb43 := NB259_233.out
        have hnc43 := NB233_259.out
        have hnb44 := NB259_234.out
        have hnc44 := NB234_259.out
        have hnb45 := NB259_241.out
        have hnc45 := NB241_259.out
        have hcz46_0 : w28.cell? ⟨gb259, 0, none⟩ = some (.int .i64 0) := (blk_cell BK259.out 0).trans rfl
        have hcz46_1 : w28.cell? ⟨gb259, 1, none⟩ = some (.int .i64 0) := (blk_cell BK259.out 1).trans rfl
        have hcz46_2 : w28.cell? ⟨gb259, 2, none⟩ = some (.slice none 0 0) := (blk_cell BK259.out 2).trans rfl
        have hcz46_3 : w28.cell? ⟨gb259, 3, none⟩ = some (.int .i64 0) := (blk_cell BK259.out 3).trans rfl
        have hfz46_0 := blk_frozen BK259.out 0
        have hfz46_1 := blk_frozen BK259.out 1
        have hfz46_2 := blk_frozen BK259.out 2
        have hfz46_3 := blk_frozen BK259.out 3
        go_wp2_with (first | ((with_reducible refine gate_callee (f := 16) rfl ?_); refine goesL_ (some 31) rfl rfl Try.func16 (by kernel_rfl) rfl #[.agg #[.int .i64 t242, .int .i64 t243, .slice Ao24 t244.length co24, .int .i64 t247], .agg #[.int .i64 t251, .int .i64 t252, .slice Ao34 t253.length co34, .int .i64 t256]] rfl (by (try simp only [List.map_toArray, List.map_cons, List.map_nil]); first | done | rfl | (simp only [List.length_drop, List.length_take]; rfl)) ?_; (with_reducible refine (rialtoref08_Same.calls k t242 t243 _ _ t244 t247 t251 t252 _ _ t253 t256 true _ ?side1 ?side2 ?side3 ?side4 A35.out).mono ?_); (case side1 => refine (Kd.R_reads' (e := 33) (base := w.heap.size) (ok := fun k_ => ((True ∧ some k_ ≠ (.slice Ao16 t237.length co16 : Value).ownBlock) ∧ some k_ ≠ (.slice Ao34 t253.length co34 : Value).ownBlock)) (n := t244.length) (c := co24) ?_).2.2; exact (by (with_reducible repeat (first | apply Kd.R_alloc | apply Kd.R_drewN | apply Kd.R_drew)); exact (Kd.R_mono (Kd.R_far (p := ⟨gb259, 3, none⟩) (Kd.R_far (p := ⟨gb259, 2, none⟩) (Kd.R_far (p := ⟨gb259, 1, none⟩) (Kd.R_far (p := ⟨gb259, 0, none⟩) (Kd.R_types HO246.out BK259.out (by decide)) (fun _ hk => hk.2) (.int .i64 t251)) (fun _ hk => hk.2) (.int .i64 t252)) (fun _ hk => hk.2) (.slice Ao34 t253.length co34)) (fun _ hk => hk.2) (.int .i64 t256)) (fun _ h_ => h_.1)))); (case side2 => exact (Kd.R_reads' HO246.out).2.1); (case side3 => refine (Kd.R_reads' (e := 33) (base := w.heap.size) (ok := fun k_ => ((True ∧ some k_ ≠ (.slice Ao16 t237.length co16 : Value).ownBlock) ∧ some k_ ≠ (.slice Ao24 t244.length co24 : Value).ownBlock)) (n := t253.length) (c := co34) ?_).2.2; exact (by (with_reducible repeat (first | apply Kd.R_alloc | apply Kd.R_drewN | apply Kd.R_drew)); exact (Kd.R_mono (Kd.R_far (p := ⟨gb259, 3, none⟩) (Kd.R_far (p := ⟨gb259, 2, none⟩) (Kd.R_far (p := ⟨gb259, 1, none⟩) (Kd.R_far (p := ⟨gb259, 0, none⟩) (Kd.R_types HO255.out BK259.out (by decide)) (fun _ hk => hk.2) (.int .i64 t251)) (fun _ hk => hk.2) (.int .i64 t252)) (fun _ hk => hk.2) (.slice Ao34 t253.length co34)) (fun _ hk => hk.2) (.int .i64 t256)) (fun _ h_ => h_.1)))); (case side4 => exact (Kd.R_reads' HO255.out).2.1); rintro e w47 ⟨rfl, hb⟩; refine ⟨_, rfl, ?_⟩; have n0_ := Aside0.mk (Kd.R_below (by (with_reducible repeat (first | apply Kd.R_alloc | apply Kd.R_drewN | apply Kd.R_drew)); exact (Kd.R_mono (Kd.R_far (p := ⟨gb259, 3, none⟩) (Kd.R_far (p := ⟨gb259, 2, none⟩) (Kd.R_far (p := ⟨gb259, 1, none⟩) (Kd.R_far (p := ⟨gb259, 0, none⟩) (Kd.R_types HO239.out BK259.out (by decide)) (fun _ hk => hk.2) (.int .i64 t251)) (fun _ hk => hk.2) (.int .i64 t252)) (fun _ hk => hk.2) (.slice Ao34 t253.length co34)) (fun _ hk => hk.2) (.int .i64 t256)) (fun _ h_ => h_.1))) hb); have n1_ := Aside0.mk (Kd.R_below (by (with_reducible repeat (first | apply Kd.R_alloc | apply Kd.R_drewN | apply Kd.R_drew)); exact (Kd.R_mono (Kd.R_far (p := ⟨gb259, 3, none⟩) (Kd.R_far (p := ⟨gb259, 2, none⟩) (Kd.R_far (p := ⟨gb259, 1, none⟩) (Kd.R_far (p := ⟨gb259, 0, none⟩) (Kd.R_types HO246.out BK259.out (by decide)) (fun _ hk => hk.2) (.int .i64 t251)) (fun _ hk => hk.2) (.int .i64 t252)) (fun _ hk => hk.2) (.slice Ao34 t253.length co34)) (fun _ hk => hk.2) (.int .i64 t256)) (fun _ h_ => h_.1))) hb); have n2_ := Aside0.mk (Kd.R_below (by (with_reducible repeat (first | apply Kd.R_alloc | apply Kd.R_drewN | apply Kd.R_drew)); exact (Kd.R_mono (Kd.R_far (p := ⟨gb259, 3, none⟩) (Kd.R_far (p := ⟨gb259, 2, none⟩) (Kd.R_far (p := ⟨gb259, 1, none⟩) (Kd.R_far (p := ⟨gb259, 0, none⟩) (Kd.R_types HO255.out BK259.out (by decide)) (fun _ hk => hk.2) (.int .i64 t251)) (fun _ hk => hk.2) (.int .i64 t252)) (fun _ hk => hk.2) (.slice Ao34 t253.length co34)) (fun _ hk => hk.2) (.int .i64 t256)) (fun _ h_ => h_.1))) hb); have n3_ := Aside0.mk (blk_below (g := gb233) (o := .cells #[.int .i64 a0_0, .int .i64 a0_1, .slice A0_2 l0_2.length c0_2, .int .i64 a0_3] 26 (0, 0)) (by (with_reducible repeat (first | refine blk_drewN ?_ _ | refine blk_drew ?_ | refine blk_alloc ?_ _)); refine blk_far ?_ NB233_259.out _; (with_reducible repeat (first | refine blk_drewN ?_ _ | refine blk_drew ?_ | refine blk_alloc ?_ _)); refine blk_far ?_ NB233_259.out _; (with_reducible repeat (first | refine blk_drewN ?_ _ | refine blk_drew ?_ | refine blk_alloc ?_ _)); refine blk_far ?_ NB233_259.out _; (with_reducible repeat (first | refine blk_drewN ?_ _ | refine blk_drew ?_ | refine blk_alloc ?_ _)); refine blk_far ?_ NB233_259.out _; (with_reducible repeat (first | refine blk_drewN ?_ _ | refine blk_drew ?_ | refine blk_alloc ?_ _)); exact BK233.out) hb); have n4_ := Aside0.mk (blk_below (g := gb234) (o := .cells #[.int .i64 a1_0, .int .i64 a1_1] 23 (0, 0)) (by (with_reducible repeat (first | refine blk_drewN ?_ _ | refine blk_drew ?_ | refine blk_alloc ?_ _)); refine blk_far ?_ NB234_259.out _; (with_reducible repeat (first | refine blk_drewN ?_ _ | refine blk_drew ?_ | refine blk_alloc ?_ _)); refine blk_far ?_ NB234_259.out _; (with_reducible repeat (first | refine blk_drewN ?_ _ | refine blk_drew ?_ | refine blk_alloc ?_ _)); refine blk_far ?_ NB234_259.out _; (with_reducible repeat (first | refine blk_drewN ?_ _ | refine blk_drew ?_ | refine blk_alloc ?_ _)); refine blk_far ?_ NB234_259.out _; (with_reducible repeat (first | refine blk_drewN ?_ _ | refine blk_drew ?_ | refine blk_alloc ?_ _)); exact BK234.out) hb); have n5_ := Aside0.mk (blk_below (g := gb241) (o := .cells #[.int .i64 t235, .int .i64 t236, .slice Ao16 t237.length co16, .int .i64 t240] 26 (0, 0)) (by (with_reducible repeat (first | refine blk_drewN ?_ _ | refine blk_drew ?_ | refine blk_alloc ?_ _)); refine blk_far ?_ NB241_259.out _; (with_reducible repeat (first | refine blk_drewN ?_ _ | refine blk_drew ?_ | refine blk_alloc ?_ _)); refine blk_far ?_ NB241_259.out _; (with_reducible repeat (first | refine blk_drewN ?_ _ | refine blk_drew ?_ | refine blk_alloc ?_ _)); refine blk_far ?_ NB241_259.out _; (with_reducible repeat (first | refine blk_drewN ?_ _ | refine blk_drew ?_ | refine blk_alloc ?_ _)); refine blk_far ?_ NB241_259.out _; (with_reducible repeat (first | refine blk_drewN ?_ _ | refine blk_drew ?_ | refine blk_alloc ?_ _)); exact BK241.out) hb); have n6_ := Aside0.mk (blk_below (g := gb250) (o := .cells #[.int .i64 t242, .int .i64 t243, .slice Ao24 t244.length co24, .int .i64 t247] 26 (0, 0)) (by (with_reducible repeat (first | refine blk_drewN ?_ _ | refine blk_drew ?_ | refine blk_alloc ?_ _)); refine blk_far ?_ NB250_259.out _; (with_reducible repeat (first | refine blk_drewN ?_ _ | refine blk_drew ?_ | refine blk_alloc ?_ _)); refine blk_far ?_ NB250_259.out _; (with_reducible repeat (first | refine blk_drewN ?_ _ | refine blk_drew ?_ | refine blk_alloc ?_ _)); refine blk_far ?_ NB250_259.out _; (with_reducible repeat (first | refine blk_drewN ?_ _ | refine blk_drew ?_ | refine blk_alloc ?_ _)); refine blk_far ?_ NB250_259.out _; (with_reducible repeat (first | refine blk_drewN ?_ _ | refine blk_drew ?_ | refine blk_alloc ?_ _)); exact BK250.out) hb); have n7_ := Aside0.mk (blk_below (g := gb259) (o := .cells #[.int .i64 t251, .int .i64 t252, .slice Ao34 t253.length co34, .int .i64 t256] 26 (0, 0)) (by (with_reducible repeat (first | refine blk_drewN ?_ _ | refine blk_drew ?_ | refine blk_alloc ?_ _)); refine blk_put (cs := #[.int .i64 t251, .int .i64 t252, .slice Ao34 t253.length co34, .int .i64 0]) ?_ 3 _ rfl; (with_reducible repeat (first | refine blk_drewN ?_ _ | refine blk_drew ?_ | refine blk_alloc ?_ _)); refine blk_put (cs := #[.int .i64 t251, .int .i64 t252, .slice none 0 0, .int .i64 0]) ?_ 2 _ rfl; (with_reducible repeat (first | refine blk_drewN ?_ _ | refine blk_drew ?_ | refine blk_alloc ?_ _)); refine blk_put (cs := #[.int .i64 t251, .int .i64 0, .slice none 0 0, .int .i64 0]) ?_ 1 _ rfl; (with_reducible repeat (first | refine blk_drewN ?_ _ | refine blk_drew ?_ | refine blk_alloc ?_ _)); refine blk_put (cs := #[.int .i64 0, .int .i64 0, .slice none 0 0, .int .i64 0]) ?_ 0 _ rfl; (with_reducible repeat (first | refine blk_drewN ?_ _ | refine blk_drew ?_ | refine blk_alloc ?_ _)); exact BK259.out) hb); have n8_ := Aside0.mk (below_step (by repeat (first | (with_reducible first | exact HB.out | apply below_alloc | apply pw_below_drewN | apply below_drew1 | refine below_set ?_ GE233.out | refine below_set ?_ GE234.out | refine below_set ?_ GE241.out | refine below_set ?_ GE250.out | refine below_set ?_ GE259.out) | exact HB.out)) hb); clear HO239; clear HO246; clear HO255; clear BK233; clear BK234; clear BK241; clear BK250; clear BK259; clear HB; have HO239 := n0_; have HO246 := n1_; have HO255 := n2_; have BK233 := n3_; have BK234 := n4_; have BK241 := n5_; have BK250 := n6_; have BK259 := n7_; have HB := n8_; clear n0_ n1_ n2_ n3_ n4_ n5_ n6_ n7_ n8_; (try clear hb); (try clear hb2); (try clear hk); (try clear hi)))
        go_meet
        case rel => exact ⟨_, (true), (by first | rfl | (simp; done) | (simp [*]; done)), H', ⟨by first | omega | exact Nat.le_refl _⟩, ⟨by (with_reducible repeat (first | apply Kd.R_alloc | apply Kd.R_drewN | apply Kd.R_drew)); exact Kd.R_mono HO239.out (fun _ hk => ⟨hk.1.2, hk.2⟩)⟩, ⟨by (with_reducible repeat (first | apply Kd.R_alloc | apply Kd.R_drewN | apply Kd.R_drew)); exact Kd.R_mono HO246.out (fun _ hk => ⟨hk.1.2, hk.2⟩)⟩, ⟨by (with_reducible repeat (first | apply Kd.R_alloc | apply Kd.R_drewN | apply Kd.R_drew)); exact Kd.R_mono HO255.out (fun _ hk => ⟨hk.1.2, hk.2⟩)⟩, ⟨by (with_reducible repeat (first | refine blk_drewN ?_ _ | refine blk_drew ?_ | refine blk_alloc ?_ _)); exact BK233.out⟩, ⟨by (with_reducible repeat (first | refine blk_drewN ?_ _ | refine blk_drew ?_ | refine blk_alloc ?_ _)); exact BK234.out⟩, ⟨by (with_reducible repeat (first | refine blk_drewN ?_ _ | refine blk_drew ?_ | refine blk_alloc ?_ _)); exact BK241.out⟩, ⟨by (with_reducible repeat (first | refine blk_drewN ?_ _ | refine blk_drew ?_ | refine blk_alloc ?_ _)); exact BK250.out⟩, ⟨by (with_reducible repeat (first | refine blk_drewN ?_ _ | refine blk_drew ?_ | refine blk_alloc ?_ _)); exact BK259.out⟩, ⟨by repeat (first | (with_reducible first | exact HB.out | apply below_alloc | apply pw_below_drewN | apply below_drew1 | refine below_set ?_ GE233.out | refine below_set ?_ GE234.out | refine below_set ?_ GE241.out | refine below_set ?_ GE250.out | refine below_set ?_ GE259.out) | exact HB.out)⟩⟩
      · rw [if_neg c37] at H
        have c37b0 : (t248 != t257) = false := by simpa using c37
        (try (have c37b1 : decide (t248 = t257) = true := by simpa using c37))
        (try (have c37b2 : (t248 == t257) = true := by simpa using c37))
        clear c37
        (first | rw [c37b0] | (simp only [i64_w, i32_w]; rw [c37b0]) | skip)
        by_cases c48 : t249 = t258
        · rw [if_pos c48] at H
          have c48b0 : (t249 == t258) = true := beq_iff_eq.mpr c48
          have c48b1 : (t249 != t258) = false := bne_eq_false_iff_eq.mpr c48
          clear c48
          replace H := Option.bind_eq_some_iff.mp H
          obtain ⟨t261, A490, H⟩ := H
          replace H : (rialtolaw09_SnapInstalls.j0 k (!t261) a0_0 a0_1 l0_2 a0_3 t235 t236 t237 t240 t242 t243 t244 t247) = some r := H
          have A49 := Aside0.mk A490
          clear A490
          have H' := Aside0.mk H
          clear H
          have hnb50 := NB250_233.out
          have hnc50 := NB233_250.out
          have hnb51 := NB250_234.out
          have hnc51 := NB234_250.out
          have hnb52 := NB250_241.out
          have hnc52 := NB241_250.out
          have hnb53 := NB250_259.out
          have hnc53 := NB259_250.out
          have hcz54_0 : w28.cell? ⟨gb250, 0, none⟩ = some (.int .i64 t242) := (blk_cell BK250.out 0).trans rfl
          have hcz54_1 : w28.cell? ⟨gb250, 1, none⟩ = some (.int .i64 t243) := (blk_cell BK250.out 1).trans rfl
          have hcz54_2 : w28.cell? ⟨gb250, 2, none⟩ = some (.slice Ao24 t244.length co24) := (blk_cell BK250.out 2).trans rfl
          have hcz54_3 : w28.cell? ⟨gb250, 3, none⟩ = some (.int .i64 t247) := (blk_cell BK250.out 3).trans rfl
          have hfz54_0 := blk_frozen BK250.out 0
          have hfz54_1 := blk_frozen BK250.out 1
          have hfz54_2 := blk_frozen BK250.out 2
          have hfz54_3 := blk_frozen BK250.out 3
          have hnb55 := NB259_233.out
          have hnc55 := NB233_259.out
          have hnb56 := NB259_234.out
          have hnc56 := NB234_259.out
          have hnb57 := NB259_241.out
          have hnc57 := NB241_259.out
          have hcz58_0 : w28.cell? ⟨gb259, 0, none⟩ = some (.int .i64 0) := (blk_cell BK259.out 0).trans rfl
          have hcz58_1 : w28.cell? ⟨gb259, 1, none⟩ = some (.int .i64 0) := (blk_cell BK259.out 1).trans rfl
          have hcz58_2 : w28.cell? ⟨gb259, 2, none⟩ = some (.slice none 0 0) := (blk_cell BK259.out 2).trans rfl
          have hcz58_3 : w28.cell? ⟨gb259, 3, none⟩ = some (.int .i64 0) := (blk_cell BK259.out 3).trans rfl
          have hfz58_0 := blk_frozen BK259.out 0
          have hfz58_1 := blk_frozen BK259.out 1
          have hfz58_2 := blk_frozen BK259.out 2
          have hfz58_3 := blk_frozen BK259.out 3
          go_wp2_with (first | ((with_reducible refine gate_callee (f := 16) rfl ?_); refine goesL_ (some 31) rfl rfl Try.func16 (by kernel_rfl) rfl #[.agg #[.int .i64 t242, .int .i64 t243, .slice Ao24 t244.length co24, .int .i64 t247], .agg #[.int .i64 t251, .int .i64 t252, .slice Ao34 t253.length co34, .int .i64 t256]] rfl (by (try simp only [List.map_toArray, List.map_cons, List.map_nil]); first | done | rfl | (simp only [List.length_drop, List.length_take]; rfl)) ?_; (with_reducible refine (rialtoref08_Same.calls k t242 t243 _ _ t244 t247 t251 t252 _ _ t253 t256 true _ ?side1 ?side2 ?side3 ?side4 A35.out).mono ?_); (case side1 => refine (Kd.R_reads' (e := 33) (base := w.heap.size) (ok := fun k_ => ((True ∧ some k_ ≠ (.slice Ao16 t237.length co16 : Value).ownBlock) ∧ some k_ ≠ (.slice Ao34 t253.length co34 : Value).ownBlock)) (n := t244.length) (c := co24) ?_).2.2; exact (by (with_reducible repeat (first | apply Kd.R_alloc | apply Kd.R_drewN | apply Kd.R_drew)); exact (Kd.R_mono (Kd.R_far (p := ⟨gb259, 3, none⟩) (Kd.R_far (p := ⟨gb259, 2, none⟩) (Kd.R_far (p := ⟨gb259, 1, none⟩) (Kd.R_far (p := ⟨gb259, 0, none⟩) (Kd.R_types HO246.out BK259.out (by decide)) (fun _ hk => hk.2) (.int .i64 t251)) (fun _ hk => hk.2) (.int .i64 t252)) (fun _ hk => hk.2) (.slice Ao34 t253.length co34)) (fun _ hk => hk.2) (.int .i64 t256)) (fun _ h_ => h_.1)))); (case side2 => exact (Kd.R_reads' HO246.out).2.1); (case side3 => refine (Kd.R_reads' (e := 33) (base := w.heap.size) (ok := fun k_ => ((True ∧ some k_ ≠ (.slice Ao16 t237.length co16 : Value).ownBlock) ∧ some k_ ≠ (.slice Ao24 t244.length co24 : Value).ownBlock)) (n := t253.length) (c := co34) ?_).2.2; exact (by (with_reducible repeat (first | apply Kd.R_alloc | apply Kd.R_drewN | apply Kd.R_drew)); exact (Kd.R_mono (Kd.R_far (p := ⟨gb259, 3, none⟩) (Kd.R_far (p := ⟨gb259, 2, none⟩) (Kd.R_far (p := ⟨gb259, 1, none⟩) (Kd.R_far (p := ⟨gb259, 0, none⟩) (Kd.R_types HO255.out BK259.out (by decide)) (fun _ hk => hk.2) (.int .i64 t251)) (fun _ hk => hk.2) (.int .i64 t252)) (fun _ hk => hk.2) (.slice Ao34 t253.length co34)) (fun _ hk => hk.2) (.int .i64 t256)) (fun _ h_ => h_.1)))); (case side4 => exact (Kd.R_reads' HO255.out).2.1); rintro e w59 ⟨rfl, hb⟩; refine ⟨_, rfl, ?_⟩; have n0_ := Aside0.mk (Kd.R_below (by (with_reducible repeat (first | apply Kd.R_alloc | apply Kd.R_drewN | apply Kd.R_drew)); exact (Kd.R_mono (Kd.R_far (p := ⟨gb259, 3, none⟩) (Kd.R_far (p := ⟨gb259, 2, none⟩) (Kd.R_far (p := ⟨gb259, 1, none⟩) (Kd.R_far (p := ⟨gb259, 0, none⟩) (Kd.R_types HO239.out BK259.out (by decide)) (fun _ hk => hk.2) (.int .i64 t251)) (fun _ hk => hk.2) (.int .i64 t252)) (fun _ hk => hk.2) (.slice Ao34 t253.length co34)) (fun _ hk => hk.2) (.int .i64 t256)) (fun _ h_ => h_.1))) hb); have n1_ := Aside0.mk (Kd.R_below (by (with_reducible repeat (first | apply Kd.R_alloc | apply Kd.R_drewN | apply Kd.R_drew)); exact (Kd.R_mono (Kd.R_far (p := ⟨gb259, 3, none⟩) (Kd.R_far (p := ⟨gb259, 2, none⟩) (Kd.R_far (p := ⟨gb259, 1, none⟩) (Kd.R_far (p := ⟨gb259, 0, none⟩) (Kd.R_types HO246.out BK259.out (by decide)) (fun _ hk => hk.2) (.int .i64 t251)) (fun _ hk => hk.2) (.int .i64 t252)) (fun _ hk => hk.2) (.slice Ao34 t253.length co34)) (fun _ hk => hk.2) (.int .i64 t256)) (fun _ h_ => h_.1))) hb); have n2_ := Aside0.mk (Kd.R_below (by (with_reducible repeat (first | apply Kd.R_alloc | apply Kd.R_drewN | apply Kd.R_drew)); exact (Kd.R_mono (Kd.R_far (p := ⟨gb259, 3, none⟩) (Kd.R_far (p := ⟨gb259, 2, none⟩) (Kd.R_far (p := ⟨gb259, 1, none⟩) (Kd.R_far (p := ⟨gb259, 0, none⟩) (Kd.R_types HO255.out BK259.out (by decide)) (fun _ hk => hk.2) (.int .i64 t251)) (fun _ hk => hk.2) (.int .i64 t252)) (fun _ hk => hk.2) (.slice Ao34 t253.length co34)) (fun _ hk => hk.2) (.int .i64 t256)) (fun _ h_ => h_.1))) hb); have n3_ := Aside0.mk (blk_below (g := gb233) (o := .cells #[.int .i64 a0_0, .int .i64 a0_1, .slice A0_2 l0_2.length c0_2, .int .i64 a0_3] 26 (0, 0)) (by (with_reducible repeat (first | refine blk_drewN ?_ _ | refine blk_drew ?_ | refine blk_alloc ?_ _)); refine blk_far ?_ NB233_259.out _; (with_reducible repeat (first | refine blk_drewN ?_ _ | refine blk_drew ?_ | refine blk_alloc ?_ _)); refine blk_far ?_ NB233_259.out _; (with_reducible repeat (first | refine blk_drewN ?_ _ | refine blk_drew ?_ | refine blk_alloc ?_ _)); refine blk_far ?_ NB233_259.out _; (with_reducible repeat (first | refine blk_drewN ?_ _ | refine blk_drew ?_ | refine blk_alloc ?_ _)); refine blk_far ?_ NB233_259.out _; (with_reducible repeat (first | refine blk_drewN ?_ _ | refine blk_drew ?_ | refine blk_alloc ?_ _)); exact BK233.out) hb); have n4_ := Aside0.mk (blk_below (g := gb234) (o := .cells #[.int .i64 a1_0, .int .i64 a1_1] 23 (0, 0)) (by (with_reducible repeat (first | refine blk_drewN ?_ _ | refine blk_drew ?_ | refine blk_alloc ?_ _)); refine blk_far ?_ NB234_259.out _; (with_reducible repeat (first | refine blk_drewN ?_ _ | refine blk_drew ?_ | refine blk_alloc ?_ _)); refine blk_far ?_ NB234_259.out _; (with_reducible repeat (first | refine blk_drewN ?_ _ | refine blk_drew ?_ | refine blk_alloc ?_ _)); refine blk_far ?_ NB234_259.out _; (with_reducible repeat (first | refine blk_drewN ?_ _ | refine blk_drew ?_ | refine blk_alloc ?_ _)); refine blk_far ?_ NB234_259.out _; (with_reducible repeat (first | refine blk_drewN ?_ _ | refine blk_drew ?_ | refine blk_alloc ?_ _)); exact BK234.out) hb); have n5_ := Aside0.mk (blk_below (g := gb241) (o := .cells #[.int .i64 t235, .int .i64 t236, .slice Ao16 t237.length co16, .int .i64 t240] 26 (0, 0)) (by (with_reducible repeat (first | refine blk_drewN ?_ _ | refine blk_drew ?_ | refine blk_alloc ?_ _)); refine blk_far ?_ NB241_259.out _; (with_reducible repeat (first | refine blk_drewN ?_ _ | refine blk_drew ?_ | refine blk_alloc ?_ _)); refine blk_far ?_ NB241_259.out _; (with_reducible repeat (first | refine blk_drewN ?_ _ | refine blk_drew ?_ | refine blk_alloc ?_ _)); refine blk_far ?_ NB241_259.out _; (with_reducible repeat (first | refine blk_drewN ?_ _ | refine blk_drew ?_ | refine blk_alloc ?_ _)); refine blk_far ?_ NB241_259.out _; (with_reducible repeat (first | refine blk_drewN ?_ _ | refine blk_drew ?_ | refine blk_alloc ?_ _)); exact BK241.out) hb); have n6_ := Aside0.mk (blk_below (g := gb250) (o := .cells #[.int .i64 t242, .int .i64 t243, .slice Ao24 t244.length co24, .int .i64 t247] 26 (0, 0)) (by (with_reducible repeat (first | refine blk_drewN ?_ _ | refine blk_drew ?_ | refine blk_alloc ?_ _)); refine blk_far ?_ NB250_259.out _; (with_reducible repeat (first | refine blk_drewN ?_ _ | refine blk_drew ?_ | refine blk_alloc ?_ _)); refine blk_far ?_ NB250_259.out _; (with_reducible repeat (first | refine blk_drewN ?_ _ | refine blk_drew ?_ | refine blk_alloc ?_ _)); refine blk_far ?_ NB250_259.out _; (with_reducible repeat (first | refine blk_drewN ?_ _ | refine blk_drew ?_ | refine blk_alloc ?_ _)); refine blk_far ?_ NB250_259.out _; (with_reducible repeat (first | refine blk_drewN ?_ _ | refine blk_drew ?_ | refine blk_alloc ?_ _)); exact BK250.out) hb); have n7_ := Aside0.mk (blk_below (g := gb259) (o := .cells #[.int .i64 t251, .int .i64 t252, .slice Ao34 t253.length co34, .int .i64 t256] 26 (0, 0)) (by (with_reducible repeat (first | refine blk_drewN ?_ _ | refine blk_drew ?_ | refine blk_alloc ?_ _)); refine blk_put (cs := #[.int .i64 t251, .int .i64 t252, .slice Ao34 t253.length co34, .int .i64 0]) ?_ 3 _ rfl; (with_reducible repeat (first | refine blk_drewN ?_ _ | refine blk_drew ?_ | refine blk_alloc ?_ _)); refine blk_put (cs := #[.int .i64 t251, .int .i64 t252, .slice none 0 0, .int .i64 0]) ?_ 2 _ rfl; (with_reducible repeat (first | refine blk_drewN ?_ _ | refine blk_drew ?_ | refine blk_alloc ?_ _)); refine blk_put (cs := #[.int .i64 t251, .int .i64 0, .slice none 0 0, .int .i64 0]) ?_ 1 _ rfl; (with_reducible repeat (first | refine blk_drewN ?_ _ | refine blk_drew ?_ | refine blk_alloc ?_ _)); refine blk_put (cs := #[.int .i64 0, .int .i64 0, .slice none 0 0, .int .i64 0]) ?_ 0 _ rfl; (with_reducible repeat (first | refine blk_drewN ?_ _ | refine blk_drew ?_ | refine blk_alloc ?_ _)); exact BK259.out) hb); have n8_ := Aside0.mk (below_step (by repeat (first | (with_reducible first | exact HB.out | apply below_alloc | apply pw_below_drewN | apply below_drew1 | refine below_set ?_ GE233.out | refine below_set ?_ GE234.out | refine below_set ?_ GE241.out | refine below_set ?_ GE250.out | refine below_set ?_ GE259.out) | exact HB.out)) hb); clear HO239; clear HO246; clear HO255; clear BK233; clear BK234; clear BK241; clear BK250; clear BK259; clear HB; have HO239 := n0_; have HO246 := n1_; have HO255 := n2_; have BK233 := n3_; have BK234 := n4_; have BK241 := n5_; have BK250 := n6_; have BK259 := n7_; have HB := n8_; clear n0_ n1_ n2_ n3_ n4_ n5_ n6_ n7_ n8_; (try clear hb); (try clear hb2); (try clear hk); (try clear hi); have hnb60 := NB241_233.out; have hnc60 := NB233_241.out; have hnb61 := NB241_234.out; have hnc61 := NB234_241.out; have hcz62_0 : w59.cell? ⟨gb241, 0, none⟩ = some (.int .i64 t235) := (blk_cell BK241.out 0).trans rfl; have hcz62_1 : w59.cell? ⟨gb241, 1, none⟩ = some (.int .i64 t236) := (blk_cell BK241.out 1).trans rfl; have hcz62_2 : w59.cell? ⟨gb241, 2, none⟩ = some (.slice Ao16 t237.length co16) := (blk_cell BK241.out 2).trans rfl; have hcz62_3 : w59.cell? ⟨gb241, 3, none⟩ = some (.int .i64 t240) := (blk_cell BK241.out 3).trans rfl; have hfz62_0 := blk_frozen BK241.out 0; have hfz62_1 := blk_frozen BK241.out 1; have hfz62_2 := blk_frozen BK241.out 2; have hfz62_3 := blk_frozen BK241.out 3; have hnb63 := NB233_234.out; have hnc63 := NB234_233.out; have hcz64_0 : w59.cell? ⟨gb233, 0, none⟩ = some (.int .i64 a0_0) := (blk_cell BK233.out 0).trans rfl; have hcz64_1 : w59.cell? ⟨gb233, 1, none⟩ = some (.int .i64 a0_1) := (blk_cell BK233.out 1).trans rfl; have hcz64_2 : w59.cell? ⟨gb233, 2, none⟩ = some (.slice A0_2 l0_2.length c0_2) := (blk_cell BK233.out 2).trans rfl; have hcz64_3 : w59.cell? ⟨gb233, 3, none⟩ = some (.int .i64 a0_3) := (blk_cell BK233.out 3).trans rfl; have hfz64_0 := blk_frozen BK233.out 0; have hfz64_1 := blk_frozen BK233.out 1; have hfz64_2 := blk_frozen BK233.out 2; have hfz64_3 := blk_frozen BK233.out 3) | (go_at_call 16; (with_reducible refine (rialtoref08_Same.calls k t235 t236 _ _ t237 t240 a0_0 a0_1 _ _ l0_2 a0_3 t261 _ ?side1 ?side2 ?side3 ?side4 A49.out).mono ?_); (case side1 => repeat (first | exact (Kd.R_reads' HO239.out).2.2 | (with_reducible refine Kd.C_alloc ?_ _) | (with_reducible refine Kd.C_drewN ?_ _) | (with_reducible refine Kd.C_drew ?_))); (case side2 => exact (Kd.R_reads' HO239.out).2.1); (case side3 => repeat (first | exact (Kd.C_below HR0_2.out HB.out) | (with_reducible refine Kd.C_alloc ?_ _) | (with_reducible refine Kd.C_drewN ?_ _) | (with_reducible refine Kd.C_drew ?_))); (case side4 => exact HC0_2.out); rintro e w65 ⟨rfl, hb⟩; have n0_ := Aside0.mk (Kd.R_below (by (with_reducible repeat (first | apply Kd.R_alloc | apply Kd.R_drewN | apply Kd.R_drew)); exact HO239.out) hb); have n1_ := Aside0.mk (Kd.R_below (by (with_reducible repeat (first | apply Kd.R_alloc | apply Kd.R_drewN | apply Kd.R_drew)); exact HO246.out) hb); have n2_ := Aside0.mk (Kd.R_below (by (with_reducible repeat (first | apply Kd.R_alloc | apply Kd.R_drewN | apply Kd.R_drew)); exact HO255.out) hb); have n3_ := Aside0.mk (blk_below (g := gb233) (o := .cells #[.int .i64 a0_0, .int .i64 a0_1, .slice A0_2 l0_2.length c0_2, .int .i64 a0_3] 26 (0, 0)) (by (with_reducible repeat (first | refine blk_drewN ?_ _ | refine blk_drew ?_ | refine blk_alloc ?_ _)); exact BK233.out) hb); have n4_ := Aside0.mk (blk_below (g := gb234) (o := .cells #[.int .i64 a1_0, .int .i64 a1_1] 23 (0, 0)) (by (with_reducible repeat (first | refine blk_drewN ?_ _ | refine blk_drew ?_ | refine blk_alloc ?_ _)); exact BK234.out) hb); have n5_ := Aside0.mk (blk_below (g := gb241) (o := .cells #[.int .i64 t235, .int .i64 t236, .slice Ao16 t237.length co16, .int .i64 t240] 26 (0, 0)) (by (with_reducible repeat (first | refine blk_drewN ?_ _ | refine blk_drew ?_ | refine blk_alloc ?_ _)); exact BK241.out) hb); have n6_ := Aside0.mk (blk_below (g := gb250) (o := .cells #[.int .i64 t242, .int .i64 t243, .slice Ao24 t244.length co24, .int .i64 t247] 26 (0, 0)) (by (with_reducible repeat (first | refine blk_drewN ?_ _ | refine blk_drew ?_ | refine blk_alloc ?_ _)); exact BK250.out) hb); have n7_ := Aside0.mk (blk_below (g := gb259) (o := .cells #[.int .i64 t251, .int .i64 t252, .slice Ao34 t253.length co34, .int .i64 t256] 26 (0, 0)) (by (with_reducible repeat (first | refine blk_drewN ?_ _ | refine blk_drew ?_ | refine blk_alloc ?_ _)); exact BK259.out) hb); have n8_ := Aside0.mk (below_step (by repeat (first | (with_reducible first | exact HB.out | apply below_alloc | apply pw_below_drewN | apply below_drew1 | refine below_set ?_ GE233.out | refine below_set ?_ GE234.out | refine below_set ?_ GE241.out | refine below_set ?_ GE250.out | refine below_set ?_ GE259.out) | exact HB.out)) hb); clear HO239; clear HO246; clear HO255; clear BK233; clear BK234; clear BK241; clear BK250; clear BK259; clear HB; have HO239 := n0_; have HO246 := n1_; have HO255 := n2_; have BK233 := n3_; have BK234 := n4_; have BK241 := n5_; have BK250 := n6_; have BK259 := n7_; have HB := n8_; clear n0_ n1_ n2_ n3_ n4_ n5_ n6_ n7_ n8_; (try clear hb); (try clear hb2); (try clear hk); (try clear hi)))
          go_meet
          case rel => exact ⟨_, (!t261), (by first | rfl | (simp; done) | (simp [*]; done)), H', ⟨by first | omega | exact Nat.le_refl _⟩, ⟨by (with_reducible repeat (first | apply Kd.R_alloc | apply Kd.R_drewN | apply Kd.R_drew)); exact Kd.R_mono HO239.out (fun _ hk => ⟨hk.1.2, hk.2⟩)⟩, ⟨by (with_reducible repeat (first | apply Kd.R_alloc | apply Kd.R_drewN | apply Kd.R_drew)); exact Kd.R_mono HO246.out (fun _ hk => ⟨hk.1.2, hk.2⟩)⟩, ⟨by (with_reducible repeat (first | apply Kd.R_alloc | apply Kd.R_drewN | apply Kd.R_drew)); exact Kd.R_mono HO255.out (fun _ hk => ⟨hk.1.2, hk.2⟩)⟩, ⟨by (with_reducible repeat (first | refine blk_drewN ?_ _ | refine blk_drew ?_ | refine blk_alloc ?_ _)); exact BK233.out⟩, ⟨by (with_reducible repeat (first | refine blk_drewN ?_ _ | refine blk_drew ?_ | refine blk_alloc ?_ _)); exact BK234.out⟩, ⟨by (with_reducible repeat (first | refine blk_drewN ?_ _ | refine blk_drew ?_ | refine blk_alloc ?_ _)); exact BK241.out⟩, ⟨by (with_reducible repeat (first | refine blk_drewN ?_ _ | refine blk_drew ?_ | refine blk_alloc ?_ _)); exact BK250.out⟩, ⟨by (with_reducible repeat (first | refine blk_drewN ?_ _ | refine blk_drew ?_ | refine blk_alloc ?_ _)); exact BK259.out⟩, ⟨by repeat (first | (with_reducible first | exact HB.out | apply below_alloc | apply pw_below_drewN | apply below_drew1 | refine below_set ?_ GE233.out | refine below_set ?_ GE234.out | refine below_set ?_ GE241.out | refine below_set ?_ GE250.out | refine below_set ?_ GE259.out) | exact HB.out)⟩⟩
        · rw [if_neg c48] at H
          have c48b0 : (t249 == t258) = false := beq_eq_false_iff_ne.mpr c48
          have c48b1 : (t249 != t258) = true := bne_iff_ne.mpr c48
          have H' := Aside0.mk H
          clear H
          have hnb66 := NB250_233.out
          have hnc66 := NB233_250.out
          have hnb67 := NB250_234.out
          have hnc67 := NB234_250.out
          have hnb68 := NB250_241.out
          have hnc68 := NB241_250.out
          have hnb69 := NB250_259.out
          have hnc69 := NB259_250.out
          have hcz70_0 : w28.cell? ⟨gb250, 0, none⟩ = some (.int .i64 t242) := (blk_cell BK250.out 0).trans rfl
          have hcz70_1 : w28.cell? ⟨gb250, 1, none⟩ = some (.int .i64 t243) := (blk_cell BK250.out 1).trans rfl
          have hcz70_2 : w28.cell? ⟨gb250, 2, none⟩ = some (.slice Ao24 t244.length co24) := (blk_cell BK250.out 2).trans rfl
          have hcz70_3 : w28.cell? ⟨gb250, 3, none⟩ = some (.int .i64 t247) := (blk_cell BK250.out 3).trans rfl
          have hfz70_0 := blk_frozen BK250.out 0
          have hfz70_1 := blk_frozen BK250.out 1
          have hfz70_2 := blk_frozen BK250.out 2
          have hfz70_3 := blk_frozen BK250.out 3
          have hnb71 := NB259_233.out
          have hnc71 := NB233_259.out
          have hnb72 := NB259_234.out
          have hnc72 := NB234_259.out
          have hnb73 := NB259_241.out
          have hnc73 := NB241_259.out
          have hcz74_0 : w28.cell? ⟨gb259, 0, none⟩ = some (.int .i64 0) := (blk_cell BK259.out 0).trans rfl
          have hcz74_1 : w28.cell? ⟨gb259, 1, none⟩ = some (.int .i64 0) := (blk_cell BK259.out 1).trans rfl
          have hcz74_2 : w28.cell? ⟨gb259, 2, none⟩ = some (.slice none 0 0) := (blk_cell BK259.out 2).trans rfl
          have hcz74_3 : w28.cell? ⟨gb259, 3, none⟩ = some (.int .i64 0) := (blk_cell BK259.out 3).trans rfl
          have hfz74_0 := blk_frozen BK259.out 0
          have hfz74_1 := blk_frozen BK259.out 1
          have hfz74_2 := blk_frozen BK259.out 2
          have hfz74_3 := blk_frozen BK259.out 3
          go_wp2_with (first | ((with_reducible refine gate_callee (f := 16) rfl ?_); refine goesL_ (some 31) rfl rfl Try.func16 (by kernel_rfl) rfl #[.agg #[.int .i64 t242, .int .i64 t243, .slice Ao24 t244.length co24, .int .i64 t247], .agg #[.int .i64 t251, .int .i64 t252, .slice Ao34 t253.length co34, .int .i64 t256]] rfl (by (try simp only [List.map_toArray, List.map_cons, List.map_nil]); first | done | rfl | (simp only [List.length_drop, List.length_take]; rfl)) ?_; (with_reducible refine (rialtoref08_Same.calls k t242 t243 _ _ t244 t247 t251 t252 _ _ t253 t256 true _ ?side1 ?side2 ?side3 ?side4 A35.out).mono ?_); (case side1 => refine (Kd.R_reads' (e := 33) (base := w.heap.size) (ok := fun k_ => ((True ∧ some k_ ≠ (.slice Ao16 t237.length co16 : Value).ownBlock) ∧ some k_ ≠ (.slice Ao34 t253.length co34 : Value).ownBlock)) (n := t244.length) (c := co24) ?_).2.2; exact (by (with_reducible repeat (first | apply Kd.R_alloc | apply Kd.R_drewN | apply Kd.R_drew)); exact (Kd.R_mono (Kd.R_far (p := ⟨gb259, 3, none⟩) (Kd.R_far (p := ⟨gb259, 2, none⟩) (Kd.R_far (p := ⟨gb259, 1, none⟩) (Kd.R_far (p := ⟨gb259, 0, none⟩) (Kd.R_types HO246.out BK259.out (by decide)) (fun _ hk => hk.2) (.int .i64 t251)) (fun _ hk => hk.2) (.int .i64 t252)) (fun _ hk => hk.2) (.slice Ao34 t253.length co34)) (fun _ hk => hk.2) (.int .i64 t256)) (fun _ h_ => h_.1)))); (case side2 => exact (Kd.R_reads' HO246.out).2.1); (case side3 => refine (Kd.R_reads' (e := 33) (base := w.heap.size) (ok := fun k_ => ((True ∧ some k_ ≠ (.slice Ao16 t237.length co16 : Value).ownBlock) ∧ some k_ ≠ (.slice Ao24 t244.length co24 : Value).ownBlock)) (n := t253.length) (c := co34) ?_).2.2; exact (by (with_reducible repeat (first | apply Kd.R_alloc | apply Kd.R_drewN | apply Kd.R_drew)); exact (Kd.R_mono (Kd.R_far (p := ⟨gb259, 3, none⟩) (Kd.R_far (p := ⟨gb259, 2, none⟩) (Kd.R_far (p := ⟨gb259, 1, none⟩) (Kd.R_far (p := ⟨gb259, 0, none⟩) (Kd.R_types HO255.out BK259.out (by decide)) (fun _ hk => hk.2) (.int .i64 t251)) (fun _ hk => hk.2) (.int .i64 t252)) (fun _ hk => hk.2) (.slice Ao34 t253.length co34)) (fun _ hk => hk.2) (.int .i64 t256)) (fun _ h_ => h_.1)))); (case side4 => exact (Kd.R_reads' HO255.out).2.1); rintro e w75 ⟨rfl, hb⟩; refine ⟨_, rfl, ?_⟩; have n0_ := Aside0.mk (Kd.R_below (by (with_reducible repeat (first | apply Kd.R_alloc | apply Kd.R_drewN | apply Kd.R_drew)); exact (Kd.R_mono (Kd.R_far (p := ⟨gb259, 3, none⟩) (Kd.R_far (p := ⟨gb259, 2, none⟩) (Kd.R_far (p := ⟨gb259, 1, none⟩) (Kd.R_far (p := ⟨gb259, 0, none⟩) (Kd.R_types HO239.out BK259.out (by decide)) (fun _ hk => hk.2) (.int .i64 t251)) (fun _ hk => hk.2) (.int .i64 t252)) (fun _ hk => hk.2) (.slice Ao34 t253.length co34)) (fun _ hk => hk.2) (.int .i64 t256)) (fun _ h_ => h_.1))) hb); have n1_ := Aside0.mk (Kd.R_below (by (with_reducible repeat (first | apply Kd.R_alloc | apply Kd.R_drewN | apply Kd.R_drew)); exact (Kd.R_mono (Kd.R_far (p := ⟨gb259, 3, none⟩) (Kd.R_far (p := ⟨gb259, 2, none⟩) (Kd.R_far (p := ⟨gb259, 1, none⟩) (Kd.R_far (p := ⟨gb259, 0, none⟩) (Kd.R_types HO246.out BK259.out (by decide)) (fun _ hk => hk.2) (.int .i64 t251)) (fun _ hk => hk.2) (.int .i64 t252)) (fun _ hk => hk.2) (.slice Ao34 t253.length co34)) (fun _ hk => hk.2) (.int .i64 t256)) (fun _ h_ => h_.1))) hb); have n2_ := Aside0.mk (Kd.R_below (by (with_reducible repeat (first | apply Kd.R_alloc | apply Kd.R_drewN | apply Kd.R_drew)); exact (Kd.R_mono (Kd.R_far (p := ⟨gb259, 3, none⟩) (Kd.R_far (p := ⟨gb259, 2, none⟩) (Kd.R_far (p := ⟨gb259, 1, none⟩) (Kd.R_far (p := ⟨gb259, 0, none⟩) (Kd.R_types HO255.out BK259.out (by decide)) (fun _ hk => hk.2) (.int .i64 t251)) (fun _ hk => hk.2) (.int .i64 t252)) (fun _ hk => hk.2) (.slice Ao34 t253.length co34)) (fun _ hk => hk.2) (.int .i64 t256)) (fun _ h_ => h_.1))) hb); have n3_ := Aside0.mk (blk_below (g := gb233) (o := .cells #[.int .i64 a0_0, .int .i64 a0_1, .slice A0_2 l0_2.length c0_2, .int .i64 a0_3] 26 (0, 0)) (by (with_reducible repeat (first | refine blk_drewN ?_ _ | refine blk_drew ?_ | refine blk_alloc ?_ _)); refine blk_far ?_ NB233_259.out _; (with_reducible repeat (first | refine blk_drewN ?_ _ | refine blk_drew ?_ | refine blk_alloc ?_ _)); refine blk_far ?_ NB233_259.out _; (with_reducible repeat (first | refine blk_drewN ?_ _ | refine blk_drew ?_ | refine blk_alloc ?_ _)); refine blk_far ?_ NB233_259.out _; (with_reducible repeat (first | refine blk_drewN ?_ _ | refine blk_drew ?_ | refine blk_alloc ?_ _)); refine blk_far ?_ NB233_259.out _; (with_reducible repeat (first | refine blk_drewN ?_ _ | refine blk_drew ?_ | refine blk_alloc ?_ _)); exact BK233.out) hb); have n4_ := Aside0.mk (blk_below (g := gb234) (o := .cells #[.int .i64 a1_0, .int .i64 a1_1] 23 (0, 0)) (by (with_reducible repeat (first | refine blk_drewN ?_ _ | refine blk_drew ?_ | refine blk_alloc ?_ _)); refine blk_far ?_ NB234_259.out _; (with_reducible repeat (first | refine blk_drewN ?_ _ | refine blk_drew ?_ | refine blk_alloc ?_ _)); refine blk_far ?_ NB234_259.out _; (with_reducible repeat (first | refine blk_drewN ?_ _ | refine blk_drew ?_ | refine blk_alloc ?_ _)); refine blk_far ?_ NB234_259.out _; (with_reducible repeat (first | refine blk_drewN ?_ _ | refine blk_drew ?_ | refine blk_alloc ?_ _)); refine blk_far ?_ NB234_259.out _; (with_reducible repeat (first | refine blk_drewN ?_ _ | refine blk_drew ?_ | refine blk_alloc ?_ _)); exact BK234.out) hb); have n5_ := Aside0.mk (blk_below (g := gb241) (o := .cells #[.int .i64 t235, .int .i64 t236, .slice Ao16 t237.length co16, .int .i64 t240] 26 (0, 0)) (by (with_reducible repeat (first | refine blk_drewN ?_ _ | refine blk_drew ?_ | refine blk_alloc ?_ _)); refine blk_far ?_ NB241_259.out _; (with_reducible repeat (first | refine blk_drewN ?_ _ | refine blk_drew ?_ | refine blk_alloc ?_ _)); refine blk_far ?_ NB241_259.out _; (with_reducible repeat (first | refine blk_drewN ?_ _ | refine blk_drew ?_ | refine blk_alloc ?_ _)); refine blk_far ?_ NB241_259.out _; (with_reducible repeat (first | refine blk_drewN ?_ _ | refine blk_drew ?_ | refine blk_alloc ?_ _)); refine blk_far ?_ NB241_259.out _; (with_reducible repeat (first | refine blk_drewN ?_ _ | refine blk_drew ?_ | refine blk_alloc ?_ _)); exact BK241.out) hb); have n6_ := Aside0.mk (blk_below (g := gb250) (o := .cells #[.int .i64 t242, .int .i64 t243, .slice Ao24 t244.length co24, .int .i64 t247] 26 (0, 0)) (by (with_reducible repeat (first | refine blk_drewN ?_ _ | refine blk_drew ?_ | refine blk_alloc ?_ _)); refine blk_far ?_ NB250_259.out _; (with_reducible repeat (first | refine blk_drewN ?_ _ | refine blk_drew ?_ | refine blk_alloc ?_ _)); refine blk_far ?_ NB250_259.out _; (with_reducible repeat (first | refine blk_drewN ?_ _ | refine blk_drew ?_ | refine blk_alloc ?_ _)); refine blk_far ?_ NB250_259.out _; (with_reducible repeat (first | refine blk_drewN ?_ _ | refine blk_drew ?_ | refine blk_alloc ?_ _)); refine blk_far ?_ NB250_259.out _; (with_reducible repeat (first | refine blk_drewN ?_ _ | refine blk_drew ?_ | refine blk_alloc ?_ _)); exact BK250.out) hb); have n7_ := Aside0.mk (blk_below (g := gb259) (o := .cells #[.int .i64 t251, .int .i64 t252, .slice Ao34 t253.length co34, .int .i64 t256] 26 (0, 0)) (by (with_reducible repeat (first | refine blk_drewN ?_ _ | refine blk_drew ?_ | refine blk_alloc ?_ _)); refine blk_put (cs := #[.int .i64 t251, .int .i64 t252, .slice Ao34 t253.length co34, .int .i64 0]) ?_ 3 _ rfl; (with_reducible repeat (first | refine blk_drewN ?_ _ | refine blk_drew ?_ | refine blk_alloc ?_ _)); refine blk_put (cs := #[.int .i64 t251, .int .i64 t252, .slice none 0 0, .int .i64 0]) ?_ 2 _ rfl; (with_reducible repeat (first | refine blk_drewN ?_ _ | refine blk_drew ?_ | refine blk_alloc ?_ _)); refine blk_put (cs := #[.int .i64 t251, .int .i64 0, .slice none 0 0, .int .i64 0]) ?_ 1 _ rfl; (with_reducible repeat (first | refine blk_drewN ?_ _ | refine blk_drew ?_ | refine blk_alloc ?_ _)); refine blk_put (cs := #[.int .i64 0, .int .i64 0, .slice none 0 0, .int .i64 0]) ?_ 0 _ rfl; (with_reducible repeat (first | refine blk_drewN ?_ _ | refine blk_drew ?_ | refine blk_alloc ?_ _)); exact BK259.out) hb); have n8_ := Aside0.mk (below_step (by repeat (first | (with_reducible first | exact HB.out | apply below_alloc | apply pw_below_drewN | apply below_drew1 | refine below_set ?_ GE233.out | refine below_set ?_ GE234.out | refine below_set ?_ GE241.out | refine below_set ?_ GE250.out | refine below_set ?_ GE259.out) | exact HB.out)) hb); clear HO239; clear HO246; clear HO255; clear BK233; clear BK234; clear BK241; clear BK250; clear BK259; clear HB; have HO239 := n0_; have HO246 := n1_; have HO255 := n2_; have BK233 := n3_; have BK234 := n4_; have BK241 := n5_; have BK250 := n6_; have BK259 := n7_; have HB := n8_; clear n0_ n1_ n2_ n3_ n4_ n5_ n6_ n7_ n8_; (try clear hb); (try clear hb2); (try clear hk); (try clear hi)))
          go_meet
          case rel => exact ⟨_, (true), (by first | rfl | (simp; done) | (simp [*]; done)), H', ⟨by first | omega | exact Nat.le_refl _⟩, ⟨by (with_reducible repeat (first | apply Kd.R_alloc | apply Kd.R_drewN | apply Kd.R_drew)); exact Kd.R_mono HO239.out (fun _ hk => ⟨hk.1.2, hk.2⟩)⟩, ⟨by (with_reducible repeat (first | apply Kd.R_alloc | apply Kd.R_drewN | apply Kd.R_drew)); exact Kd.R_mono HO246.out (fun _ hk => ⟨hk.1.2, hk.2⟩)⟩, ⟨by (with_reducible repeat (first | apply Kd.R_alloc | apply Kd.R_drewN | apply Kd.R_drew)); exact Kd.R_mono HO255.out (fun _ hk => ⟨hk.1.2, hk.2⟩)⟩, ⟨by (with_reducible repeat (first | refine blk_drewN ?_ _ | refine blk_drew ?_ | refine blk_alloc ?_ _)); exact BK233.out⟩, ⟨by (with_reducible repeat (first | refine blk_drewN ?_ _ | refine blk_drew ?_ | refine blk_alloc ?_ _)); exact BK234.out⟩, ⟨by (with_reducible repeat (first | refine blk_drewN ?_ _ | refine blk_drew ?_ | refine blk_alloc ?_ _)); exact BK241.out⟩, ⟨by (with_reducible repeat (first | refine blk_drewN ?_ _ | refine blk_drew ?_ | refine blk_alloc ?_ _)); exact BK250.out⟩, ⟨by (with_reducible repeat (first | refine blk_drewN ?_ _ | refine blk_drew ?_ | refine blk_alloc ?_ _)); exact BK259.out⟩, ⟨by repeat (first | (with_reducible first | exact HB.out | apply below_alloc | apply pw_below_drewN | apply below_drew1 | refine below_set ?_ GE233.out | refine below_set ?_ GE234.out | refine below_set ?_ GE241.out | refine below_set ?_ GE250.out | refine below_set ?_ GE259.out) | exact HB.out)⟩⟩
    · replace c36 := Bool.eq_false_iff.mpr c36
      subst c36
      have H1 : (rialtolaw09_SnapInstalls.j0 k true a0_0 a0_1 l0_2 a0_3 t235 t236 t237 t240 t242 t243 t244 t247) = some r := by rw [if_neg (show ¬ (false = true) by decide)] at H; exact H
      clear H
      have H := H1
      clear H1
      have H' := Aside0.mk H
      clear H
      have hnb76 := NB250_233.out
      have hnc76 := NB233_250.out
      have hnb77 := NB250_234.out
      have hnc77 := NB234_250.out
      have hnb78 := NB250_241.out
      have hnc78 := NB241_250.out
      have hnb79 := NB250_259.out
      have hnc79 := NB259_250.out
      have hcz80_0 : w28.cell? ⟨gb250, 0, none⟩ = some (.int .i64 t242) := (blk_cell BK250.out 0).trans rfl
      have hcz80_1 : w28.cell? ⟨gb250, 1, none⟩ = some (.int .i64 t243) := (blk_cell BK250.out 1).trans rfl
      have hcz80_2 : w28.cell? ⟨gb250, 2, none⟩ = some (.slice Ao24 t244.length co24) := (blk_cell BK250.out 2).trans rfl
      have hcz80_3 : w28.cell? ⟨gb250, 3, none⟩ = some (.int .i64 t247) := (blk_cell BK250.out 3).trans rfl
      have hfz80_0 := blk_frozen BK250.out 0
      have hfz80_1 := blk_frozen BK250.out 1
      have hfz80_2 := blk_frozen BK250.out 2
      have hfz80_3 := blk_frozen BK250.out 3
      have hnb81 := NB259_233.out
      have hnc81 := NB233_259.out
      have hnb82 := NB259_234.out
      have hnc82 := NB234_259.out
      have hnb83 := NB259_241.out
      have hnc83 := NB241_259.out
      have hcz84_0 : w28.cell? ⟨gb259, 0, none⟩ = some (.int .i64 0) := (blk_cell BK259.out 0).trans rfl
      have hcz84_1 : w28.cell? ⟨gb259, 1, none⟩ = some (.int .i64 0) := (blk_cell BK259.out 1).trans rfl
      have hcz84_2 : w28.cell? ⟨gb259, 2, none⟩ = some (.slice none 0 0) := (blk_cell BK259.out 2).trans rfl
      have hcz84_3 : w28.cell? ⟨gb259, 3, none⟩ = some (.int .i64 0) := (blk_cell BK259.out 3).trans rfl
      have hfz84_0 := blk_frozen BK259.out 0
      have hfz84_1 := blk_frozen BK259.out 1
      have hfz84_2 := blk_frozen BK259.out 2
      have hfz84_3 := blk_frozen BK259.out 3
      go_wp2_with (first | ((with_reducible refine gate_callee (f := 16) rfl ?_); refine goesL_ (some 31) rfl rfl Try.func16 (by kernel_rfl) rfl #[.agg #[.int .i64 t242, .int .i64 t243, .slice Ao24 t244.length co24, .int .i64 t247], .agg #[.int .i64 t251, .int .i64 t252, .slice Ao34 t253.length co34, .int .i64 t256]] rfl (by (try simp only [List.map_toArray, List.map_cons, List.map_nil]); first | done | rfl | (simp only [List.length_drop, List.length_take]; rfl)) ?_; (with_reducible refine (rialtoref08_Same.calls k t242 t243 _ _ t244 t247 t251 t252 _ _ t253 t256 false _ ?side1 ?side2 ?side3 ?side4 A35.out).mono ?_); (case side1 => refine (Kd.R_reads' (e := 33) (base := w.heap.size) (ok := fun k_ => ((True ∧ some k_ ≠ (.slice Ao16 t237.length co16 : Value).ownBlock) ∧ some k_ ≠ (.slice Ao34 t253.length co34 : Value).ownBlock)) (n := t244.length) (c := co24) ?_).2.2; exact (by (with_reducible repeat (first | apply Kd.R_alloc | apply Kd.R_drewN | apply Kd.R_drew)); exact (Kd.R_mono (Kd.R_far (p := ⟨gb259, 3, none⟩) (Kd.R_far (p := ⟨gb259, 2, none⟩) (Kd.R_far (p := ⟨gb259, 1, none⟩) (Kd.R_far (p := ⟨gb259, 0, none⟩) (Kd.R_types HO246.out BK259.out (by decide)) (fun _ hk => hk.2) (.int .i64 t251)) (fun _ hk => hk.2) (.int .i64 t252)) (fun _ hk => hk.2) (.slice Ao34 t253.length co34)) (fun _ hk => hk.2) (.int .i64 t256)) (fun _ h_ => h_.1)))); (case side2 => exact (Kd.R_reads' HO246.out).2.1); (case side3 => refine (Kd.R_reads' (e := 33) (base := w.heap.size) (ok := fun k_ => ((True ∧ some k_ ≠ (.slice Ao16 t237.length co16 : Value).ownBlock) ∧ some k_ ≠ (.slice Ao24 t244.length co24 : Value).ownBlock)) (n := t253.length) (c := co34) ?_).2.2; exact (by (with_reducible repeat (first | apply Kd.R_alloc | apply Kd.R_drewN | apply Kd.R_drew)); exact (Kd.R_mono (Kd.R_far (p := ⟨gb259, 3, none⟩) (Kd.R_far (p := ⟨gb259, 2, none⟩) (Kd.R_far (p := ⟨gb259, 1, none⟩) (Kd.R_far (p := ⟨gb259, 0, none⟩) (Kd.R_types HO255.out BK259.out (by decide)) (fun _ hk => hk.2) (.int .i64 t251)) (fun _ hk => hk.2) (.int .i64 t252)) (fun _ hk => hk.2) (.slice Ao34 t253.length co34)) (fun _ hk => hk.2) (.int .i64 t256)) (fun _ h_ => h_.1)))); (case side4 => exact (Kd.R_reads' HO255.out).2.1); rintro e w85 ⟨rfl, hb⟩; refine ⟨_, rfl, ?_⟩; have n0_ := Aside0.mk (Kd.R_below (by (with_reducible repeat (first | apply Kd.R_alloc | apply Kd.R_drewN | apply Kd.R_drew)); exact (Kd.R_mono (Kd.R_far (p := ⟨gb259, 3, none⟩) (Kd.R_far (p := ⟨gb259, 2, none⟩) (Kd.R_far (p := ⟨gb259, 1, none⟩) (Kd.R_far (p := ⟨gb259, 0, none⟩) (Kd.R_types HO239.out BK259.out (by decide)) (fun _ hk => hk.2) (.int .i64 t251)) (fun _ hk => hk.2) (.int .i64 t252)) (fun _ hk => hk.2) (.slice Ao34 t253.length co34)) (fun _ hk => hk.2) (.int .i64 t256)) (fun _ h_ => h_.1))) hb); have n1_ := Aside0.mk (Kd.R_below (by (with_reducible repeat (first | apply Kd.R_alloc | apply Kd.R_drewN | apply Kd.R_drew)); exact (Kd.R_mono (Kd.R_far (p := ⟨gb259, 3, none⟩) (Kd.R_far (p := ⟨gb259, 2, none⟩) (Kd.R_far (p := ⟨gb259, 1, none⟩) (Kd.R_far (p := ⟨gb259, 0, none⟩) (Kd.R_types HO246.out BK259.out (by decide)) (fun _ hk => hk.2) (.int .i64 t251)) (fun _ hk => hk.2) (.int .i64 t252)) (fun _ hk => hk.2) (.slice Ao34 t253.length co34)) (fun _ hk => hk.2) (.int .i64 t256)) (fun _ h_ => h_.1))) hb); have n2_ := Aside0.mk (Kd.R_below (by (with_reducible repeat (first | apply Kd.R_alloc | apply Kd.R_drewN | apply Kd.R_drew)); exact (Kd.R_mono (Kd.R_far (p := ⟨gb259, 3, none⟩) (Kd.R_far (p := ⟨gb259, 2, none⟩) (Kd.R_far (p := ⟨gb259, 1, none⟩) (Kd.R_far (p := ⟨gb259, 0, none⟩) (Kd.R_types HO255.out BK259.out (by decide)) (fun _ hk => hk.2) (.int .i64 t251)) (fun _ hk => hk.2) (.int .i64 t252)) (fun _ hk => hk.2) (.slice Ao34 t253.length co34)) (fun _ hk => hk.2) (.int .i64 t256)) (fun _ h_ => h_.1))) hb); have n3_ := Aside0.mk (blk_below (g := gb233) (o := .cells #[.int .i64 a0_0, .int .i64 a0_1, .slice A0_2 l0_2.length c0_2, .int .i64 a0_3] 26 (0, 0)) (by (with_reducible repeat (first | refine blk_drewN ?_ _ | refine blk_drew ?_ | refine blk_alloc ?_ _)); refine blk_far ?_ NB233_259.out _; (with_reducible repeat (first | refine blk_drewN ?_ _ | refine blk_drew ?_ | refine blk_alloc ?_ _)); refine blk_far ?_ NB233_259.out _; (with_reducible repeat (first | refine blk_drewN ?_ _ | refine blk_drew ?_ | refine blk_alloc ?_ _)); refine blk_far ?_ NB233_259.out _; (with_reducible repeat (first | refine blk_drewN ?_ _ | refine blk_drew ?_ | refine blk_alloc ?_ _)); refine blk_far ?_ NB233_259.out _; (with_reducible repeat (first | refine blk_drewN ?_ _ | refine blk_drew ?_ | refine blk_alloc ?_ _)); exact BK233.out) hb); have n4_ := Aside0.mk (blk_below (g := gb234) (o := .cells #[.int .i64 a1_0, .int .i64 a1_1] 23 (0, 0)) (by (with_reducible repeat (first | refine blk_drewN ?_ _ | refine blk_drew ?_ | refine blk_alloc ?_ _)); refine blk_far ?_ NB234_259.out _; (with_reducible repeat (first | refine blk_drewN ?_ _ | refine blk_drew ?_ | refine blk_alloc ?_ _)); refine blk_far ?_ NB234_259.out _; (with_reducible repeat (first | refine blk_drewN ?_ _ | refine blk_drew ?_ | refine blk_alloc ?_ _)); refine blk_far ?_ NB234_259.out _; (with_reducible repeat (first | refine blk_drewN ?_ _ | refine blk_drew ?_ | refine blk_alloc ?_ _)); refine blk_far ?_ NB234_259.out _; (with_reducible repeat (first | refine blk_drewN ?_ _ | refine blk_drew ?_ | refine blk_alloc ?_ _)); exact BK234.out) hb); have n5_ := Aside0.mk (blk_below (g := gb241) (o := .cells #[.int .i64 t235, .int .i64 t236, .slice Ao16 t237.length co16, .int .i64 t240] 26 (0, 0)) (by (with_reducible repeat (first | refine blk_drewN ?_ _ | refine blk_drew ?_ | refine blk_alloc ?_ _)); refine blk_far ?_ NB241_259.out _; (with_reducible repeat (first | refine blk_drewN ?_ _ | refine blk_drew ?_ | refine blk_alloc ?_ _)); refine blk_far ?_ NB241_259.out _; (with_reducible repeat (first | refine blk_drewN ?_ _ | refine blk_drew ?_ | refine blk_alloc ?_ _)); refine blk_far ?_ NB241_259.out _; (with_reducible repeat (first | refine blk_drewN ?_ _ | refine blk_drew ?_ | refine blk_alloc ?_ _)); refine blk_far ?_ NB241_259.out _; (with_reducible repeat (first | refine blk_drewN ?_ _ | refine blk_drew ?_ | refine blk_alloc ?_ _)); exact BK241.out) hb); have n6_ := Aside0.mk (blk_below (g := gb250) (o := .cells #[.int .i64 t242, .int .i64 t243, .slice Ao24 t244.length co24, .int .i64 t247] 26 (0, 0)) (by (with_reducible repeat (first | refine blk_drewN ?_ _ | refine blk_drew ?_ | refine blk_alloc ?_ _)); refine blk_far ?_ NB250_259.out _; (with_reducible repeat (first | refine blk_drewN ?_ _ | refine blk_drew ?_ | refine blk_alloc ?_ _)); refine blk_far ?_ NB250_259.out _; (with_reducible repeat (first | refine blk_drewN ?_ _ | refine blk_drew ?_ | refine blk_alloc ?_ _)); refine blk_far ?_ NB250_259.out _; (with_reducible repeat (first | refine blk_drewN ?_ _ | refine blk_drew ?_ | refine blk_alloc ?_ _)); refine blk_far ?_ NB250_259.out _; (with_reducible repeat (first | refine blk_drewN ?_ _ | refine blk_drew ?_ | refine blk_alloc ?_ _)); exact BK250.out) hb); have n7_ := Aside0.mk (blk_below (g := gb259) (o := .cells #[.int .i64 t251, .int .i64 t252, .slice Ao34 t253.length co34, .int .i64 t256] 26 (0, 0)) (by (with_reducible repeat (first | refine blk_drewN ?_ _ | refine blk_drew ?_ | refine blk_alloc ?_ _)); refine blk_put (cs := #[.int .i64 t251, .int .i64 t252, .slice Ao34 t253.length co34, .int .i64 0]) ?_ 3 _ rfl; (with_reducible repeat (first | refine blk_drewN ?_ _ | refine blk_drew ?_ | refine blk_alloc ?_ _)); refine blk_put (cs := #[.int .i64 t251, .int .i64 t252, .slice none 0 0, .int .i64 0]) ?_ 2 _ rfl; (with_reducible repeat (first | refine blk_drewN ?_ _ | refine blk_drew ?_ | refine blk_alloc ?_ _)); refine blk_put (cs := #[.int .i64 t251, .int .i64 0, .slice none 0 0, .int .i64 0]) ?_ 1 _ rfl; (with_reducible repeat (first | refine blk_drewN ?_ _ | refine blk_drew ?_ | refine blk_alloc ?_ _)); refine blk_put (cs := #[.int .i64 0, .int .i64 0, .slice none 0 0, .int .i64 0]) ?_ 0 _ rfl; (with_reducible repeat (first | refine blk_drewN ?_ _ | refine blk_drew ?_ | refine blk_alloc ?_ _)); exact BK259.out) hb); have n8_ := Aside0.mk (below_step (by repeat (first | (with_reducible first | exact HB.out | apply below_alloc | apply pw_below_drewN | apply below_drew1 | refine below_set ?_ GE233.out | refine below_set ?_ GE234.out | refine below_set ?_ GE241.out | refine below_set ?_ GE250.out | refine below_set ?_ GE259.out) | exact HB.out)) hb); clear HO239; clear HO246; clear HO255; clear BK233; clear BK234; clear BK241; clear BK250; clear BK259; clear HB; have HO239 := n0_; have HO246 := n1_; have HO255 := n2_; have BK233 := n3_; have BK234 := n4_; have BK241 := n5_; have BK250 := n6_; have BK259 := n7_; have HB := n8_; clear n0_ n1_ n2_ n3_ n4_ n5_ n6_ n7_ n8_; (try clear hb); (try clear hb2); (try clear hk); (try clear hi)))
      go_meet
      case rel => exact ⟨_, (true), (by first | rfl | (simp; done) | (simp [*]; done)), H', ⟨by first | omega | exact Nat.le_refl _⟩, ⟨by (with_reducible repeat (first | apply Kd.R_alloc | apply Kd.R_drewN | apply Kd.R_drew)); exact Kd.R_mono HO239.out (fun _ hk => ⟨hk.1.2, hk.2⟩)⟩, ⟨by (with_reducible repeat (first | apply Kd.R_alloc | apply Kd.R_drewN | apply Kd.R_drew)); exact Kd.R_mono HO246.out (fun _ hk => ⟨hk.1.2, hk.2⟩)⟩, ⟨by (with_reducible repeat (first | apply Kd.R_alloc | apply Kd.R_drewN | apply Kd.R_drew)); exact Kd.R_mono HO255.out (fun _ hk => ⟨hk.1.2, hk.2⟩)⟩, ⟨by (with_reducible repeat (first | refine blk_drewN ?_ _ | refine blk_drew ?_ | refine blk_alloc ?_ _)); exact BK233.out⟩, ⟨by (with_reducible repeat (first | refine blk_drewN ?_ _ | refine blk_drew ?_ | refine blk_alloc ?_ _)); exact BK234.out⟩, ⟨by (with_reducible repeat (first | refine blk_drewN ?_ _ | refine blk_drew ?_ | refine blk_alloc ?_ _)); exact BK241.out⟩, ⟨by (with_reducible repeat (first | refine blk_drewN ?_ _ | refine blk_drew ?_ | refine blk_alloc ?_ _)); exact BK250.out⟩, ⟨by (with_reducible repeat (first | refine blk_drewN ?_ _ | refine blk_drew ?_ | refine blk_alloc ?_ _)); exact BK259.out⟩, ⟨by repeat (first | (with_reducible first | exact HB.out | apply below_alloc | apply pw_below_drewN | apply below_drew1 | refine below_set ?_ GE233.out | refine below_set ?_ GE234.out | refine below_set ?_ GE241.out | refine below_set ?_ GE250.out | refine below_set ?_ GE259.out) | exact HB.out)⟩⟩
  case rest =>
    clear HC6
    try clear c1
    try clear c2
    try clear p2
    try clear c3
    try clear c4
    try clear c5
    try clear c6
    try clear c7
    try clear c8
    try clear c9
    try clear c13
    try clear c14
    try clear c16
    try clear c18
    try clear c19
    try clear c20
    try clear c21
    try clear c22
    try clear c29
    try clear c30
    try clear c31
    try clear c32
    try clear c36
    try clear c37
    try clear c37b0
    try clear c37b1
    try clear c37b2
    try clear c38
    try clear c39
    try clear c40
    try clear c41
    try clear c43
    try clear c44
    try clear c45
    try clear c48
    try clear c48b0
    try clear c48b1
    try clear c50
    try clear c51
    try clear c52
    try clear c53
    try clear c55
    try clear c56
    try clear c57
    try clear c60
    try clear c61
    try clear c63
    try clear c66
    try clear c67
    try clear c68
    try clear c69
    try clear c71
    try clear c72
    try clear c73
    try clear c76
    try clear c77
    try clear c78
    try clear c79
    try clear c81
    try clear c82
    try clear c83
    try clear hcz10_0
    try clear hcz10_1
    try clear hcz10_2
    try clear hcz10_3
    try clear hcz15_0
    try clear hcz15_1
    try clear hcz15_2
    try clear hcz15_3
    try clear hcz17_0
    try clear hcz17_1
    try clear hcz23_0
    try clear hcz23_1
    try clear hcz23_2
    try clear hcz23_3
    try clear hcz25_0
    try clear hcz25_1
    try clear hcz25_2
    try clear hcz25_3
    try clear hcz26_0
    try clear hcz26_1
    try clear hcz33_0
    try clear hcz33_1
    try clear hcz33_2
    try clear hcz33_3
    try clear hcz42_0
    try clear hcz42_1
    try clear hcz42_2
    try clear hcz42_3
    try clear hcz46_0
    try clear hcz46_1
    try clear hcz46_2
    try clear hcz46_3
    try clear hcz54_0
    try clear hcz54_1
    try clear hcz54_2
    try clear hcz54_3
    try clear hcz58_0
    try clear hcz58_1
    try clear hcz58_2
    try clear hcz58_3
    try clear hcz62_0
    try clear hcz62_1
    try clear hcz62_2
    try clear hcz62_3
    try clear hcz64_0
    try clear hcz64_1
    try clear hcz64_2
    try clear hcz64_3
    try clear hcz70_0
    try clear hcz70_1
    try clear hcz70_2
    try clear hcz70_3
    try clear hcz74_0
    try clear hcz74_1
    try clear hcz74_2
    try clear hcz74_3
    try clear hcz80_0
    try clear hcz80_1
    try clear hcz80_2
    try clear hcz80_3
    try clear hcz84_0
    try clear hcz84_1
    try clear hcz84_2
    try clear hcz84_3
    try clear hfz10_0
    try clear hfz10_1
    try clear hfz10_2
    try clear hfz10_3
    try clear hfz15_0
    try clear hfz15_1
    try clear hfz15_2
    try clear hfz15_3
    try clear hfz17_0
    try clear hfz17_1
    try clear hfz23_0
    try clear hfz23_1
    try clear hfz23_2
    try clear hfz23_3
    try clear hfz25_0
    try clear hfz25_1
    try clear hfz25_2
    try clear hfz25_3
    try clear hfz26_0
    try clear hfz26_1
    try clear hfz33_0
    try clear hfz33_1
    try clear hfz33_2
    try clear hfz33_3
    try clear hfz42_0
    try clear hfz42_1
    try clear hfz42_2
    try clear hfz42_3
    try clear hfz46_0
    try clear hfz46_1
    try clear hfz46_2
    try clear hfz46_3
    try clear hfz54_0
    try clear hfz54_1
    try clear hfz54_2
    try clear hfz54_3
    try clear hfz58_0
    try clear hfz58_1
    try clear hfz58_2
    try clear hfz58_3
    try clear hfz62_0
    try clear hfz62_1
    try clear hfz62_2
    try clear hfz62_3
    try clear hfz64_0
    try clear hfz64_1
    try clear hfz64_2
    try clear hfz64_3
    try clear hfz70_0
    try clear hfz70_1
    try clear hfz70_2
    try clear hfz70_3
    try clear hfz74_0
    try clear hfz74_1
    try clear hfz74_2
    try clear hfz74_3
    try clear hfz80_0
    try clear hfz80_1
    try clear hfz80_2
    try clear hfz80_3
    try clear hfz84_0
    try clear hfz84_1
    try clear hfz84_2
    try clear hfz84_3
    obtain ⟨kq, x48_5, rfl, HA, HJ5, HO_242002, HO_251002, HO_260002, BK233, BK234, BK241, BK250, BK259, HB⟩ := hcut
    cases kq with
    | zero => exact absurd HA.out (by simp [rialtolaw09_SnapInstalls.j0])
    | succ kj5 =>
      have H := HA.out
      clear HA
      simp only [rialtolaw09_SnapInstalls.j0] at H
      by_cases c86 : x48_5 = true
      · subst c86
        have H1 : (some false) = some r := by rw [if_pos rfl] at H; exact H
        clear H
        have H := H1
        clear H1
        obtain rfl := Option.some.inj H
        go_wp2
        go_ret
        exact ⟨by first | rfl | (simp [errW_none, errW_some] <;> rfl) | (simp [*, errW_none, errW_some] <;> rfl), by repeat (first | (with_reducible first | exact HB.out | apply below_alloc | apply pw_below_drewN | apply below_drew1 | refine below_set ?_ GE233.out | refine below_set ?_ GE234.out | refine below_set ?_ GE241.out | refine below_set ?_ GE250.out | refine below_set ?_ GE259.out) | exact HB.out)⟩
      · replace c86 := Bool.eq_false_iff.mpr c86
        subst c86
        have H1 : (rialtolaw09_SnapInstalls.l0 kj5 0 a0_0 a0_1 l0_2 a0_3 t235 t236 t237 t240 t242 t243 t244 t247) = some r := by rw [if_neg (show ¬ (false = true) by decide)] at H; exact H
        clear H
        have H := H1
        clear H1
        have H' := Aside0.mk H
        clear H
        go_wp2
        go_loopg [12] kj5 (fun kq v12 w' => ∃ (x12_2 : Int) (x242002_2 : List (S33)) (x251002_2 : List (S33)) (x260002_2 : List (S33)) (u242002 : Value) (u251002 : Value) (u260002 : Value), v12 = .int .i64 x12_2 ∧ Aside0 (rialtolaw09_SnapInstalls.l0 kq x12_2 a0_0 a0_1 l0_2 a0_3 t235 t236 x242002_2 t240 t242 t243 x251002_2 t247 = some r) ∧ Aside0 (kq ≤ kj5) ∧ Aside0 (Kd.R k33 33 w' w.heap.size (fun k_ => some k_ ≠ (u251002 : Value).ownBlock ∧ some k_ ≠ (u260002 : Value).ownBlock) u242002 x242002_2) ∧ Aside0 (Kd.R k33 33 w' w.heap.size (fun k_ => some k_ ≠ (u242002 : Value).ownBlock ∧ some k_ ≠ (u260002 : Value).ownBlock) u251002 x251002_2) ∧ Aside0 (Kd.R k33 33 w' w.heap.size (fun k_ => some k_ ≠ (u242002 : Value).ownBlock ∧ some k_ ≠ (u251002 : Value).ownBlock) u260002 x260002_2) ∧ Aside0 (w'.heap[gb233]? = some (.cells #[.int .i64 a0_0, .int .i64 a0_1, (.slice A0_2 l0_2.length c0_2), .int .i64 a0_3] 26 (0, 0))) ∧ Aside0 (w'.heap[gb234]? = some (.cells #[.int .i64 a1_0, .int .i64 a1_1] 23 (0, 0))) ∧ Aside0 (w'.heap[gb241]? = some (.cells #[.int .i64 t235, .int .i64 t236, u242002, .int .i64 t240] 26 (0, 0))) ∧ Aside0 (w'.heap[gb250]? = some (.cells #[.int .i64 t242, .int .i64 t243, u251002, .int .i64 t247] 26 (0, 0))) ∧ Aside0 (w'.heap[gb259]? = some (.cells #[.int .i64 t251, .int .i64 t252, u260002, .int .i64 t256] 26 (0, 0))) ∧ Aside0 (Below w.heap.size w w'))
        case atStart => exact ⟨(0), (t237), (t244), (t253), (.slice Ao16 t237.length co16), (.slice Ao24 t244.length co24), (.slice Ao34 t253.length co34), (by first | rfl | (simp; done) | (simp [*]; done)), H', ⟨Nat.le_refl _⟩, ⟨by (with_reducible repeat (first | apply Kd.R_alloc | apply Kd.R_drewN | apply Kd.R_drew)); exact HO_242002.out⟩, ⟨by (with_reducible repeat (first | apply Kd.R_alloc | apply Kd.R_drewN | apply Kd.R_drew)); exact HO_251002.out⟩, ⟨by (with_reducible repeat (first | apply Kd.R_alloc | apply Kd.R_drewN | apply Kd.R_drew)); exact HO_260002.out⟩, ⟨by (with_reducible repeat (first | refine blk_drewN ?_ _ | refine blk_drew ?_ | refine blk_alloc ?_ _)); exact BK233.out⟩, ⟨by (with_reducible repeat (first | refine blk_drewN ?_ _ | refine blk_drew ?_ | refine blk_alloc ?_ _)); exact BK234.out⟩, ⟨by (with_reducible repeat (first | refine blk_drewN ?_ _ | refine blk_drew ?_ | refine blk_alloc ?_ _)); exact BK241.out⟩, ⟨by (with_reducible repeat (first | refine blk_drewN ?_ _ | refine blk_drew ?_ | refine blk_alloc ?_ _)); exact BK250.out⟩, ⟨by (with_reducible repeat (first | refine blk_drewN ?_ _ | refine blk_drew ?_ | refine blk_alloc ?_ _)); exact BK259.out⟩, ⟨by repeat (first | (with_reducible first | exact HB.out | apply below_alloc | apply pw_below_drewN | apply below_drew1 | refine below_set ?_ GE233.out | refine below_set ?_ GE234.out | refine below_set ?_ GE241.out | refine below_set ?_ GE250.out | refine below_set ?_ GE259.out) | exact HB.out)⟩⟩
        case round =>
          clear H'
          try clear c1
          try clear c2
          try clear p2
          try clear c3
          try clear c4
          try clear c5
          try clear c6
          try clear c7
          try clear c8
          try clear c9
          try clear c13
          try clear c14
          try clear c16
          try clear c18
          try clear c19
          try clear c20
          try clear c21
          try clear c22
          try clear c29
          try clear c30
          try clear c31
          try clear c32
          try clear c36
          try clear c37
          try clear c37b0
          try clear c37b1
          try clear c37b2
          try clear c38
          try clear c39
          try clear c40
          try clear c41
          try clear c43
          try clear c44
          try clear c45
          try clear c48
          try clear c48b0
          try clear c48b1
          try clear c50
          try clear c51
          try clear c52
          try clear c53
          try clear c55
          try clear c56
          try clear c57
          try clear c60
          try clear c61
          try clear c63
          try clear c66
          try clear c67
          try clear c68
          try clear c69
          try clear c71
          try clear c72
          try clear c73
          try clear c76
          try clear c77
          try clear c78
          try clear c79
          try clear c81
          try clear c82
          try clear c83
          try clear c86
          try clear hcz10_0
          try clear hcz10_1
          try clear hcz10_2
          try clear hcz10_3
          try clear hcz15_0
          try clear hcz15_1
          try clear hcz15_2
          try clear hcz15_3
          try clear hcz17_0
          try clear hcz17_1
          try clear hcz23_0
          try clear hcz23_1
          try clear hcz23_2
          try clear hcz23_3
          try clear hcz25_0
          try clear hcz25_1
          try clear hcz25_2
          try clear hcz25_3
          try clear hcz26_0
          try clear hcz26_1
          try clear hcz33_0
          try clear hcz33_1
          try clear hcz33_2
          try clear hcz33_3
          try clear hcz42_0
          try clear hcz42_1
          try clear hcz42_2
          try clear hcz42_3
          try clear hcz46_0
          try clear hcz46_1
          try clear hcz46_2
          try clear hcz46_3
          try clear hcz54_0
          try clear hcz54_1
          try clear hcz54_2
          try clear hcz54_3
          try clear hcz58_0
          try clear hcz58_1
          try clear hcz58_2
          try clear hcz58_3
          try clear hcz62_0
          try clear hcz62_1
          try clear hcz62_2
          try clear hcz62_3
          try clear hcz64_0
          try clear hcz64_1
          try clear hcz64_2
          try clear hcz64_3
          try clear hcz70_0
          try clear hcz70_1
          try clear hcz70_2
          try clear hcz70_3
          try clear hcz74_0
          try clear hcz74_1
          try clear hcz74_2
          try clear hcz74_3
          try clear hcz80_0
          try clear hcz80_1
          try clear hcz80_2
          try clear hcz80_3
          try clear hcz84_0
          try clear hcz84_1
          try clear hcz84_2
          try clear hcz84_3
          try clear hfz10_0
          try clear hfz10_1
          try clear hfz10_2
          try clear hfz10_3
          try clear hfz15_0
          try clear hfz15_1
          try clear hfz15_2
          try clear hfz15_3
          try clear hfz17_0
          try clear hfz17_1
          try clear hfz23_0
          try clear hfz23_1
          try clear hfz23_2
          try clear hfz23_3
          try clear hfz25_0
          try clear hfz25_1
          try clear hfz25_2
          try clear hfz25_3
          try clear hfz26_0
          try clear hfz26_1
          try clear hfz33_0
          try clear hfz33_1
          try clear hfz33_2
          try clear hfz33_3
          try clear hfz42_0
          try clear hfz42_1
          try clear hfz42_2
          try clear hfz42_3
          try clear hfz46_0
          try clear hfz46_1
          try clear hfz46_2
          try clear hfz46_3
          try clear hfz54_0
          try clear hfz54_1
          try clear hfz54_2
          try clear hfz54_3
          try clear hfz58_0
          try clear hfz58_1
          try clear hfz58_2
          try clear hfz58_3
          try clear hfz62_0
          try clear hfz62_1
          try clear hfz62_2
          try clear hfz62_3
          try clear hfz64_0
          try clear hfz64_1
          try clear hfz64_2
          try clear hfz64_3
          try clear hfz70_0
          try clear hfz70_1
          try clear hfz70_2
          try clear hfz70_3
          try clear hfz74_0
          try clear hfz74_1
          try clear hfz74_2
          try clear hfz74_3
          try clear hfz80_0
          try clear hfz80_1
          try clear hfz80_2
          try clear hfz80_3
          try clear hfz84_0
          try clear hfz84_1
          try clear hfz84_2
          try clear hfz84_3
          try clear p2
          obtain ⟨x12_2, x242002_2, x251002_2, x260002_2, u242002, u251002, u260002, rfl, HA, HK2, HO_242002, HO_251002, HO_260002, BK233, BK234, BK241, BK250, BK259, HB⟩ := hrel
          cases gk with
          | zero => exact absurd HA.out (by simp [rialtolaw09_SnapInstalls.l0])
          | succ k2 =>
            have H := HA.out
            clear HA
            simp only [rialtolaw09_SnapInstalls.l0] at H
            by_cases c87 : x12_2 < (x251002_2.length : Int)
            · rw [if_pos c87] at H
              have c87b0 : decide (x12_2 < (x251002_2.length : Int)) = true := decide_eq_true c87
              clear c87
              by_cases c88 : 0 ≤ x12_2
              · rw [if_pos c88] at H
                have c88b0 : decide (0 ≤ x12_2) = true := decide_eq_true c88
                clear c88
                obtain ⟨y262, hy262⟩ : ∃ y_ : List (S33), y_ = (x251002_2.set (x12_2 : Int).toNat (⟨(rd_T33 x251002_2 x12_2).f0, (rd_T33 x251002_2 x12_2).f1, (⟨#[119, 114, 105, 116, 116, 101, 110]⟩ : ByteArray)⟩ : S33)) := ⟨_, rfl⟩
                replace H : (rialtolaw09_SnapInstalls.l0 k2 (wrap64 (x12_2 + 1)) a0_0 a0_1 l0_2 a0_3 t235 t236 x242002_2 t240 t242 t243 y262 t247) = some r := by first | (rw [hy262]; with_reducible exact H) | (have H2_ := (Option.bind_some _ _).symm.trans H; rw [hy262]; with_reducible exact H2_) | (have H2_ := (Option.bind_some _ _).symm.trans H; with_reducible exact H2_) | with_reducible exact H | (rw [hy262]; exact H) | exact H
                have Ny262 := Aside0.mk hy262
                clear hy262
                have H' := Aside0.mk H
                clear H
                have hnb90 := NB250_233.out
                have hnc90 := NB233_250.out
                have hnb91 := NB250_234.out
                have hnc91 := NB234_250.out
                have hnb92 := NB250_241.out
                have hnc92 := NB241_250.out
                have hnb93 := NB250_259.out
                have hnc93 := NB259_250.out
                have hcz94_0 : wr.cell? ⟨gb250, 0, none⟩ = some (.int .i64 t242) := (blk_cell BK250.out 0).trans rfl
                have hcz94_1 : wr.cell? ⟨gb250, 1, none⟩ = some (.int .i64 t243) := (blk_cell BK250.out 1).trans rfl
                have hcz94_2 : wr.cell? ⟨gb250, 2, none⟩ = some (u251002) := (blk_cell BK250.out 2).trans rfl
                have hcz94_3 : wr.cell? ⟨gb250, 3, none⟩ = some (.int .i64 t247) := (blk_cell BK250.out 3).trans rfl
                have hfz94_0 := blk_frozen BK250.out 0
                have hfz94_1 := blk_frozen BK250.out 1
                have hfz94_2 := blk_frozen BK250.out 2
                have hfz94_3 := blk_frozen BK250.out 3
                obtain ⟨Ao95, co95, eo95⟩ := Kd.R_slice HO_251002.out
                subst eo95
                have p89 : 0 ≤ (x12_2 : Int) := of_decide_eq_true (by first | (with_reducible assumption) | assumption)
                have q89 : (x12_2 : Int) < ((x251002_2.length : Int) : Int) := of_decide_eq_true (by first | (with_reducible assumption) | assumption)
                obtain ⟨go89, co89, eo89, gb89, gl89, cl89, HG89⟩ := Kd.R_form HO_251002.out (by omega)
                (first | cases eo89 | (injection eo89 with ea_ en_ ec_; (first | subst ea_ | (injection ea_ with ea_; subst ea_)); subst ec_; clear en_))
                have GB89 := Aside0.mk gb89
                have GG89 := Aside0.mk HG89
                clear gb89 gl89 HG89
                obtain ⟨ce89, hcl89, hM89, hcc89, hfr89⟩ := Kd.R_elem HO_251002.out z33 (x12_2 : Int) p89 q89
                obtain rfl := k33_openM hM89
                have hx89_0 : wr.cell? ⟨go89, (x12_2 : Int).toNat * 3, none⟩ = some (.int .i64 ((rd_T33 x251002_2 x12_2).f0)) := hcc89 0 _ rfl
                have hx89_1 : wr.cell? ⟨go89, (x12_2 : Int).toNat * 3 + 1, none⟩ = some (.int .i64 ((rd_T33 x251002_2 x12_2).f1)) := hcc89 1 _ rfl
                have hx89_2 : wr.cell? ⟨go89, (x12_2 : Int).toNat * 3 + 2, none⟩ = some (.string ((rd_T33 x251002_2 x12_2).f2)) := hcc89 2 _ rfl
                have hf89_0 : wr.frozen? ⟨go89, (x12_2 : Int).toNat * 3, none⟩ = false := hfr89 0
                have hf89_1 : wr.frozen? ⟨go89, (x12_2 : Int).toNat * 3 + 1, none⟩ = false := hfr89 1
                have hf89_2 : wr.frozen? ⟨go89, (x12_2 : Int).toNat * 3 + 2, none⟩ = false := hfr89 2
                clear hcl89 hcc89 hfr89 hM89
                replace p89 := eq_true p89
                replace q89 := eq_true q89
                have HX96 := Aside0.mk (show Kd.R k33 33 wr w.heap.size (fun k_ => some k_ ≠ (u242002 : Value).ownBlock ∧ some k_ ≠ (u260002 : Value).ownBlock) (.slice (some ⟨go89, 0, none⟩) x251002_2.length co95) x251002_2 from (by (with_reducible repeat (first | apply Kd.R_alloc | apply Kd.R_drewN | apply Kd.R_drew)); exact HO_251002.out))
                obtain ⟨ce96, hcl96, hM96, hcc96, hfr96⟩ := Kd.R_elem HX96.out z33 (x12_2 : Int) (of_decide_eq_true (by first | (with_reducible assumption) | assumption)) (by have h_ : (x12_2 : Int) < ((x251002_2.length : Int) : Int) := of_decide_eq_true (by first | (with_reducible assumption) | assumption); first | exact h_ | (have e_ := (Kd.R_reads' HO_251002.out).1; omega) | simpa using h_)
                obtain rfl := k33_openM hM96
                have HP96 := Kd.R_seg HX96.out (x12_2 : Int) (of_decide_eq_true (by first | (with_reducible assumption) | assumption)) (by have h_ : (x12_2 : Int) < ((x251002_2.length : Int) : Int) := of_decide_eq_true (by first | (with_reducible assumption) | assumption); first | exact h_ | (have e_ := (Kd.R_reads' HO_251002.out).1; omega) | simpa using h_) (seg := [.string (⟨#[119, 114, 105, 116, 116, 101, 110]⟩ : ByteArray)]) (j := 2) hcl96 hcc96 (show 3 ≤ 3 from by decide) (x' := (⟨(rd_T33 x251002_2 x12_2).f0, (rd_T33 x251002_2 x12_2).f1, (⟨#[119, 114, 105, 116, 116, 101, 110]⟩ : ByteArray)⟩ : S33)) (k33_mkM _ _ _ (⟨(rd_T33 x251002_2 x12_2).f0, (rd_T33 x251002_2 x12_2).f1, (⟨#[119, 114, 105, 116, 116, 101, 110]⟩ : ByteArray)⟩ : S33) ) (fun _ hk => hk)
                have hx96_2 := hcc96 2 _ rfl
                (try simp only [show (k33).sz = 3 from rfl, Nat.mul_one, Nat.add_zero] at hx96_2)
                have hf96_2 := hfr96 2
                (try simp only [show (k33).sz = 3 from rfl, Nat.mul_one, Nat.add_zero] at hf96_2)
                clear hcl96 hcc96 hfr96 hM96
                go_wp2_with (first | ((with_reducible refine gate_store (t := 9) (p := 60) rfl ?_); refine store_event (t := 9) (p := 60) (v := ?vo_w97) (w1 := (wr.setCell ⟨go89, (x12_2 : Int).toNat * 3 + 2, none⟩ (.string (⟨#[119, 114, 105, 116, 116, 101, 110]⟩ : ByteArray)))) ?hg ?ho ?hn ?hr ?_; (case ho => rfl); (case hg => rfl); (case hn => rfl); (case hr => first | (go_simp; done) | (go_simp; rfl)); intro w97 hw; have hg : wr.grownBy w97 (some go89) := (by rw [hw]; exact HP96.2); have hp_ : Kd.R k33 33 w97 w.heap.size (fun k_ => some k_ ≠ (u242002 : Value).ownBlock ∧ some k_ ≠ (u260002 : Value).ownBlock) (.slice (some ⟨go89, 0, none⟩) x251002_2.length co95) y262 := (by rw [hw, Ny262.out]; exact HP96.1); clear HP96; have n0_ := Aside0.mk (Kd.R_after (v := (.slice (some ⟨go89, 0, none⟩) x251002_2.length co95)) (v1 := (.slice (some ⟨go89, 0, none⟩) x251002_2.length co95)) (ok := (fun k_ => some k_ ≠ (u260002 : Value).ownBlock)) (by (with_reducible repeat (first | apply Kd.R_alloc | apply Kd.R_drewN | apply Kd.R_drew)); exact Kd.R_mono HO_242002.out (fun _ hk => ⟨hk.2, hk.1⟩)) hg (.inl rfl)); have n1_ := Aside0.mk (hp_); have n2_ := Aside0.mk (Kd.R_after (v := (.slice (some ⟨go89, 0, none⟩) x251002_2.length co95)) (v1 := (.slice (some ⟨go89, 0, none⟩) x251002_2.length co95)) (ok := (fun k_ => some k_ ≠ (u242002 : Value).ownBlock)) (by (with_reducible repeat (first | apply Kd.R_alloc | apply Kd.R_drewN | apply Kd.R_drew)); exact HO_260002.out) hg (.inl rfl)); have n3_ := Aside0.mk (blk_grown (g := gb233) (o := .cells #[.int .i64 a0_0, .int .i64 a0_1, .slice A0_2 l0_2.length c0_2, .int .i64 a0_3] 26 (0, 0)) (by (with_reducible repeat (first | refine blk_drewN ?_ _ | refine blk_drew ?_ | refine blk_alloc ?_ _)); exact BK233.out) hg (Kd.R_ne HO_251002.out BK233.out (by decide))); have n4_ := Aside0.mk (blk_grown (g := gb234) (o := .cells #[.int .i64 a1_0, .int .i64 a1_1] 23 (0, 0)) (by (with_reducible repeat (first | refine blk_drewN ?_ _ | refine blk_drew ?_ | refine blk_alloc ?_ _)); exact BK234.out) hg (Kd.R_ne HO_251002.out BK234.out (by decide))); have n5_ := Aside0.mk (blk_grown (g := gb241) (o := .cells #[.int .i64 t235, .int .i64 t236, u242002, .int .i64 t240] 26 (0, 0)) (by (with_reducible repeat (first | refine blk_drewN ?_ _ | refine blk_drew ?_ | refine blk_alloc ?_ _)); exact BK241.out) hg (Kd.R_ne HO_251002.out BK241.out (by decide))); have n6_ := Aside0.mk (blk_grown (g := gb250) (o := .cells #[.int .i64 t242, .int .i64 t243, .slice (some ⟨go89, 0, none⟩) x251002_2.length co95, .int .i64 t247] 26 (0, 0)) (by (with_reducible repeat (first | refine blk_drewN ?_ _ | refine blk_drew ?_ | refine blk_alloc ?_ _)); exact BK250.out) hg (Kd.R_ne HO_251002.out BK250.out (by decide))); have n7_ := Aside0.mk (blk_grown (g := gb259) (o := .cells #[.int .i64 t251, .int .i64 t252, u260002, .int .i64 t256] 26 (0, 0)) (by (with_reducible repeat (first | refine blk_drewN ?_ _ | refine blk_drew ?_ | refine blk_alloc ?_ _)); exact BK259.out) hg (Kd.R_ne HO_251002.out BK259.out (by decide))); have n8_ := Aside0.mk ((by rw [hw]; exact below_set (HB.out) GB89.out : Below w.heap.size w w97)); clear HO_242002; clear HO_251002; clear HO_260002; clear BK233; clear BK234; clear BK241; clear BK250; clear BK259; clear HB; have HO_242002 := n0_; have HO_251002 := n1_; have HO_260002 := n2_; have BK233 := n3_; have BK234 := n4_; have BK241 := n5_; have BK250 := n6_; have BK259 := n7_; have HB := n8_; clear n0_ n1_ n2_ n3_ n4_ n5_ n6_ n7_ n8_; clear hg hw hp_))
                go_roundg k2
                case measure => have := HJ5.out; have := HK2.out; omega
                case rel => exact ⟨(wrap64 (x12_2 + 1)), (x242002_2), (y262), (x260002_2), (u242002), (.slice (some ⟨go89, 0, none⟩) x251002_2.length co95), (u260002), (by first | rfl | (simp; done) | (simp [*]; done)), H', ⟨by have := HJ5.out; have := HK2.out; omega⟩, ⟨by (with_reducible repeat (first | apply Kd.R_alloc | apply Kd.R_drewN | apply Kd.R_drew)); exact Kd.R_mono HO_242002.out (fun _ hk => ⟨hk.2, hk.1⟩)⟩, ⟨by (with_reducible repeat (first | apply Kd.R_alloc | apply Kd.R_drewN | apply Kd.R_drew)); exact HO_251002.out⟩, ⟨by (with_reducible repeat (first | apply Kd.R_alloc | apply Kd.R_drewN | apply Kd.R_drew)); exact HO_260002.out⟩, ⟨by (with_reducible repeat (first | refine blk_drewN ?_ _ | refine blk_drew ?_ | refine blk_alloc ?_ _)); exact BK233.out⟩, ⟨by (with_reducible repeat (first | refine blk_drewN ?_ _ | refine blk_drew ?_ | refine blk_alloc ?_ _)); exact BK234.out⟩, ⟨by (with_reducible repeat (first | refine blk_drewN ?_ _ | refine blk_drew ?_ | refine blk_alloc ?_ _)); exact BK241.out⟩, ⟨by (with_reducible repeat (first | refine blk_drewN ?_ _ | refine blk_drew ?_ | refine blk_alloc ?_ _)); exact BK250.out⟩, ⟨by (with_reducible repeat (first | refine blk_drewN ?_ _ | refine blk_drew ?_ | refine blk_alloc ?_ _)); exact BK259.out⟩, ⟨by repeat (first | (with_reducible first | exact HB.out | apply below_alloc | apply pw_below_drewN | apply below_drew1 | refine below_set ?_ GE233.out | refine below_set ?_ GE234.out | refine below_set ?_ GE241.out | refine below_set ?_ GE250.out | refine below_set ?_ GE259.out) | exact HB.out)⟩⟩
              · rw [if_neg c88] at H
                exact absurd H (by simp)
            · rw [if_neg c87] at H
              have c87b0 : decide (x12_2 < (x251002_2.length : Int)) = false := decide_eq_false c87
              clear c87
              replace H := Option.bind_eq_some_iff.mp H
              obtain ⟨t263, A980, H⟩ := H
              replace H : (if t263 = true then ((rialtolaw09_live.f k2).bind fun t264 => (some t264)) else (some false)) = some r := H
              have A98 := Aside0.mk A980
              clear A980
              by_cases c99 : t263 = true
              · subst c99
                have H1 : ((rialtolaw09_live.f k2).bind fun t264 => (some t264)) = some r := by rw [if_pos rfl] at H; exact H
                clear H
                have H := H1
                clear H1
                replace H := Option.bind_eq_some_iff.mp H
                obtain ⟨t264, A1000, H⟩ := H
                replace H : (some t264) = some r := H
                have A100 := Aside0.mk A1000
                clear A1000
                obtain rfl := Option.some.inj H
                have hnb101 := NB250_233.out
                have hnc101 := NB233_250.out
                have hnb102 := NB250_234.out
                have hnc102 := NB234_250.out
                have hnb103 := NB250_241.out
                have hnc103 := NB241_250.out
                have hnb104 := NB250_259.out
                have hnc104 := NB259_250.out
                have hcz105_0 : wr.cell? ⟨gb250, 0, none⟩ = some (.int .i64 t242) := (blk_cell BK250.out 0).trans rfl
                have hcz105_1 : wr.cell? ⟨gb250, 1, none⟩ = some (.int .i64 t243) := (blk_cell BK250.out 1).trans rfl
                have hcz105_2 : wr.cell? ⟨gb250, 2, none⟩ = some (u251002) := (blk_cell BK250.out 2).trans rfl
                have hcz105_3 : wr.cell? ⟨gb250, 3, none⟩ = some (.int .i64 t247) := (blk_cell BK250.out 3).trans rfl
                have hfz105_0 := blk_frozen BK250.out 0
                have hfz105_1 := blk_frozen BK250.out 1
                have hfz105_2 := blk_frozen BK250.out 2
                have hfz105_3 := blk_frozen BK250.out 3
                obtain ⟨Ao106, co106, eo106⟩ := Kd.R_slice HO_251002.out
                subst eo106
                have hnb107 := NB241_233.out
                have hnc107 := NB233_241.out
                have hnb108 := NB241_234.out
                have hnc108 := NB234_241.out
                have hnb109 := NB241_259.out
                have hnc109 := NB259_241.out
                have hcz110_0 : wr.cell? ⟨gb241, 0, none⟩ = some (.int .i64 t235) := (blk_cell BK241.out 0).trans rfl
                have hcz110_1 : wr.cell? ⟨gb241, 1, none⟩ = some (.int .i64 t236) := (blk_cell BK241.out 1).trans rfl
                have hcz110_2 : wr.cell? ⟨gb241, 2, none⟩ = some (u242002) := (blk_cell BK241.out 2).trans rfl
                have hcz110_3 : wr.cell? ⟨gb241, 3, none⟩ = some (.int .i64 t240) := (blk_cell BK241.out 3).trans rfl
                have hfz110_0 := blk_frozen BK241.out 0
                have hfz110_1 := blk_frozen BK241.out 1
                have hfz110_2 := blk_frozen BK241.out 2
                have hfz110_3 := blk_frozen BK241.out 3
                have hnb111 := NB233_234.out
                have hnc111 := NB234_233.out
                have hnb112 := NB233_259.out
                have hnc112 := NB259_233.out
                have hcz113_0 : wr.cell? ⟨gb233, 0, none⟩ = some (.int .i64 a0_0) := (blk_cell BK233.out 0).trans rfl
                have hcz113_1 : wr.cell? ⟨gb233, 1, none⟩ = some (.int .i64 a0_1) := (blk_cell BK233.out 1).trans rfl
                have hcz113_2 : wr.cell? ⟨gb233, 2, none⟩ = some (.slice A0_2 l0_2.length c0_2) := (blk_cell BK233.out 2).trans rfl
                have hcz113_3 : wr.cell? ⟨gb233, 3, none⟩ = some (.int .i64 a0_3) := (blk_cell BK233.out 3).trans rfl
                have hfz113_0 := blk_frozen BK233.out 0
                have hfz113_1 := blk_frozen BK233.out 1
                have hfz113_2 := blk_frozen BK233.out 2
                have hfz113_3 := blk_frozen BK233.out 3
                obtain ⟨Ao114, co114, eo114⟩ := Kd.R_slice HO_242002.out
                subst eo114
                go_wp2_with (first | ((with_reducible refine gate_callee (f := 16) rfl ?_); refine goesL_ (some 63) rfl rfl Try.func16 (by kernel_rfl) rfl #[.agg #[.int .i64 t235, .int .i64 t236, .slice Ao114 x242002_2.length co114, .int .i64 t240], .agg #[.int .i64 a0_0, .int .i64 a0_1, .slice A0_2 l0_2.length c0_2, .int .i64 a0_3]] rfl (by (try simp only [List.map_toArray, List.map_cons, List.map_nil]); first | done | rfl | (simp only [List.length_drop, List.length_take]; rfl)) ?_; (with_reducible refine (rialtoref08_Same.calls k2 t235 t236 _ _ x242002_2 t240 a0_0 a0_1 _ _ l0_2 a0_3 true _ ?side1 ?side2 ?side3 ?side4 A98.out).mono ?_); (case side1 => repeat (first | exact (Kd.R_reads' HO_242002.out).2.2 | (with_reducible refine Kd.C_alloc ?_ _) | (with_reducible refine Kd.C_drewN ?_ _) | (with_reducible refine Kd.C_drew ?_))); (case side2 => exact (Kd.R_reads' HO_242002.out).2.1); (case side3 => repeat (first | exact (Kd.C_below HR0_2.out HB.out) | (with_reducible refine Kd.C_alloc ?_ _) | (with_reducible refine Kd.C_drewN ?_ _) | (with_reducible refine Kd.C_drew ?_))); (case side4 => exact HC0_2.out); rintro e w115 ⟨rfl, hb⟩; refine ⟨_, rfl, ?_⟩; have n0_ := Aside0.mk (Kd.R_below (by (with_reducible repeat (first | apply Kd.R_alloc | apply Kd.R_drewN | apply Kd.R_drew)); exact HO_242002.out) hb); have n1_ := Aside0.mk (Kd.R_below (by (with_reducible repeat (first | apply Kd.R_alloc | apply Kd.R_drewN | apply Kd.R_drew)); exact HO_251002.out) hb); have n2_ := Aside0.mk (Kd.R_below (by (with_reducible repeat (first | apply Kd.R_alloc | apply Kd.R_drewN | apply Kd.R_drew)); exact HO_260002.out) hb); have n3_ := Aside0.mk (blk_below (g := gb233) (o := .cells #[.int .i64 a0_0, .int .i64 a0_1, .slice A0_2 l0_2.length c0_2, .int .i64 a0_3] 26 (0, 0)) (by (with_reducible repeat (first | refine blk_drewN ?_ _ | refine blk_drew ?_ | refine blk_alloc ?_ _)); exact BK233.out) hb); have n4_ := Aside0.mk (blk_below (g := gb234) (o := .cells #[.int .i64 a1_0, .int .i64 a1_1] 23 (0, 0)) (by (with_reducible repeat (first | refine blk_drewN ?_ _ | refine blk_drew ?_ | refine blk_alloc ?_ _)); exact BK234.out) hb); have n5_ := Aside0.mk (blk_below (g := gb241) (o := .cells #[.int .i64 t235, .int .i64 t236, .slice Ao114 x242002_2.length co114, .int .i64 t240] 26 (0, 0)) (by (with_reducible repeat (first | refine blk_drewN ?_ _ | refine blk_drew ?_ | refine blk_alloc ?_ _)); exact BK241.out) hb); have n6_ := Aside0.mk (blk_below (g := gb250) (o := .cells #[.int .i64 t242, .int .i64 t243, .slice Ao106 x251002_2.length co106, .int .i64 t247] 26 (0, 0)) (by (with_reducible repeat (first | refine blk_drewN ?_ _ | refine blk_drew ?_ | refine blk_alloc ?_ _)); exact BK250.out) hb); have n7_ := Aside0.mk (blk_below (g := gb259) (o := .cells #[.int .i64 t251, .int .i64 t252, u260002, .int .i64 t256] 26 (0, 0)) (by (with_reducible repeat (first | refine blk_drewN ?_ _ | refine blk_drew ?_ | refine blk_alloc ?_ _)); exact BK259.out) hb); have n8_ := Aside0.mk (below_step (by repeat (first | (with_reducible first | exact HB.out | apply below_alloc | apply pw_below_drewN | apply below_drew1 | refine below_set ?_ GE233.out | refine below_set ?_ GE234.out | refine below_set ?_ GE241.out | refine below_set ?_ GE250.out | refine below_set ?_ GE259.out) | exact HB.out)) hb); clear HO_242002; clear HO_251002; clear HO_260002; clear BK233; clear BK234; clear BK241; clear BK250; clear BK259; clear HB; have HO_242002 := n0_; have HO_251002 := n1_; have HO_260002 := n2_; have BK233 := n3_; have BK234 := n4_; have BK241 := n5_; have BK250 := n6_; have BK259 := n7_; have HB := n8_; clear n0_ n1_ n2_ n3_ n4_ n5_ n6_ n7_ n8_; (try clear hb); (try clear hb2); (try clear hk); (try clear hi)) | (go_at_call 17; (with_reducible refine (rialtolaw09_live.calls k2  t264 _ A100.out).mono ?_); rintro e w116 ⟨rfl, hb⟩; have n0_ := Aside0.mk (Kd.R_below (by (with_reducible repeat (first | apply Kd.R_alloc | apply Kd.R_drewN | apply Kd.R_drew)); exact HO_242002.out) hb); have n1_ := Aside0.mk (Kd.R_below (by (with_reducible repeat (first | apply Kd.R_alloc | apply Kd.R_drewN | apply Kd.R_drew)); exact HO_251002.out) hb); have n2_ := Aside0.mk (Kd.R_below (by (with_reducible repeat (first | apply Kd.R_alloc | apply Kd.R_drewN | apply Kd.R_drew)); exact HO_260002.out) hb); have n3_ := Aside0.mk (blk_below (g := gb233) (o := .cells #[.int .i64 a0_0, .int .i64 a0_1, .slice A0_2 l0_2.length c0_2, .int .i64 a0_3] 26 (0, 0)) (by (with_reducible repeat (first | refine blk_drewN ?_ _ | refine blk_drew ?_ | refine blk_alloc ?_ _)); exact BK233.out) hb); have n4_ := Aside0.mk (blk_below (g := gb234) (o := .cells #[.int .i64 a1_0, .int .i64 a1_1] 23 (0, 0)) (by (with_reducible repeat (first | refine blk_drewN ?_ _ | refine blk_drew ?_ | refine blk_alloc ?_ _)); exact BK234.out) hb); have n5_ := Aside0.mk (blk_below (g := gb241) (o := .cells #[.int .i64 t235, .int .i64 t236, .slice Ao114 x242002_2.length co114, .int .i64 t240] 26 (0, 0)) (by (with_reducible repeat (first | refine blk_drewN ?_ _ | refine blk_drew ?_ | refine blk_alloc ?_ _)); exact BK241.out) hb); have n6_ := Aside0.mk (blk_below (g := gb250) (o := .cells #[.int .i64 t242, .int .i64 t243, .slice Ao106 x251002_2.length co106, .int .i64 t247] 26 (0, 0)) (by (with_reducible repeat (first | refine blk_drewN ?_ _ | refine blk_drew ?_ | refine blk_alloc ?_ _)); exact BK250.out) hb); have n7_ := Aside0.mk (blk_below (g := gb259) (o := .cells #[.int .i64 t251, .int .i64 t252, u260002, .int .i64 t256] 26 (0, 0)) (by (with_reducible repeat (first | refine blk_drewN ?_ _ | refine blk_drew ?_ | refine blk_alloc ?_ _)); exact BK259.out) hb); have n8_ := Aside0.mk (below_step (by repeat (first | (with_reducible first | exact HB.out | apply below_alloc | apply pw_below_drewN | apply below_drew1 | refine below_set ?_ GE233.out | refine below_set ?_ GE234.out | refine below_set ?_ GE241.out | refine below_set ?_ GE250.out | refine below_set ?_ GE259.out) | exact HB.out)) hb); clear HO_242002; clear HO_251002; clear HO_260002; clear BK233; clear BK234; clear BK241; clear BK250; clear BK259; clear HB; have HO_242002 := n0_; have HO_251002 := n1_; have HO_260002 := n2_; have BK233 := n3_; have BK234 := n4_; have BK241 := n5_; have BK250 := n6_; have BK259 := n7_; have HB := n8_; clear n0_ n1_ n2_ n3_ n4_ n5_ n6_ n7_ n8_; (try clear hb); (try clear hb2); (try clear hk); (try clear hi)))
                go_ret
                exact ⟨by first | rfl | (simp [errW_none, errW_some] <;> rfl) | (simp [*, errW_none, errW_some] <;> rfl), by repeat (first | (with_reducible first | exact HB.out | apply below_alloc | apply pw_below_drewN | apply below_drew1 | refine below_set ?_ GE233.out | refine below_set ?_ GE234.out | refine below_set ?_ GE241.out | refine below_set ?_ GE250.out | refine below_set ?_ GE259.out) | exact HB.out)⟩
              · replace c99 := Bool.eq_false_iff.mpr c99
                subst c99
                have H1 : (some false) = some r := by rw [if_neg (show ¬ (false = true) by decide)] at H; exact H
                clear H
                have H := H1
                clear H1
                obtain rfl := Option.some.inj H
                have hnb117 := NB250_233.out
                have hnc117 := NB233_250.out
                have hnb118 := NB250_234.out
                have hnc118 := NB234_250.out
                have hnb119 := NB250_241.out
                have hnc119 := NB241_250.out
                have hnb120 := NB250_259.out
                have hnc120 := NB259_250.out
                have hcz121_0 : wr.cell? ⟨gb250, 0, none⟩ = some (.int .i64 t242) := (blk_cell BK250.out 0).trans rfl
                have hcz121_1 : wr.cell? ⟨gb250, 1, none⟩ = some (.int .i64 t243) := (blk_cell BK250.out 1).trans rfl
                have hcz121_2 : wr.cell? ⟨gb250, 2, none⟩ = some (u251002) := (blk_cell BK250.out 2).trans rfl
                have hcz121_3 : wr.cell? ⟨gb250, 3, none⟩ = some (.int .i64 t247) := (blk_cell BK250.out 3).trans rfl
                have hfz121_0 := blk_frozen BK250.out 0
                have hfz121_1 := blk_frozen BK250.out 1
                have hfz121_2 := blk_frozen BK250.out 2
                have hfz121_3 := blk_frozen BK250.out 3
                obtain ⟨Ao122, co122, eo122⟩ := Kd.R_slice HO_251002.out
                subst eo122
                have hnb123 := NB241_233.out
                have hnc123 := NB233_241.out
                have hnb124 := NB241_234.out
                have hnc124 := NB234_241.out
                have hnb125 := NB241_259.out
                have hnc125 := NB259_241.out
                have hcz126_0 : wr.cell? ⟨gb241, 0, none⟩ = some (.int .i64 t235) := (blk_cell BK241.out 0).trans rfl
                have hcz126_1 : wr.cell? ⟨gb241, 1, none⟩ = some (.int .i64 t236) := (blk_cell BK241.out 1).trans rfl
                have hcz126_2 : wr.cell? ⟨gb241, 2, none⟩ = some (u242002) := (blk_cell BK241.out 2).trans rfl
                have hcz126_3 : wr.cell? ⟨gb241, 3, none⟩ = some (.int .i64 t240) := (blk_cell BK241.out 3).trans rfl
                have hfz126_0 := blk_frozen BK241.out 0
                have hfz126_1 := blk_frozen BK241.out 1
                have hfz126_2 := blk_frozen BK241.out 2
                have hfz126_3 := blk_frozen BK241.out 3
                have hnb127 := NB233_234.out
                have hnc127 := NB234_233.out
                have hnb128 := NB233_259.out
                have hnc128 := NB259_233.out
                have hcz129_0 : wr.cell? ⟨gb233, 0, none⟩ = some (.int .i64 a0_0) := (blk_cell BK233.out 0).trans rfl
                have hcz129_1 : wr.cell? ⟨gb233, 1, none⟩ = some (.int .i64 a0_1) := (blk_cell BK233.out 1).trans rfl
                have hcz129_2 : wr.cell? ⟨gb233, 2, none⟩ = some (.slice A0_2 l0_2.length c0_2) := (blk_cell BK233.out 2).trans rfl
                have hcz129_3 : wr.cell? ⟨gb233, 3, none⟩ = some (.int .i64 a0_3) := (blk_cell BK233.out 3).trans rfl
                have hfz129_0 := blk_frozen BK233.out 0
                have hfz129_1 := blk_frozen BK233.out 1
                have hfz129_2 := blk_frozen BK233.out 2
                have hfz129_3 := blk_frozen BK233.out 3
                obtain ⟨Ao130, co130, eo130⟩ := Kd.R_slice HO_242002.out
                subst eo130
                go_wp2_with (first | ((with_reducible refine gate_callee (f := 16) rfl ?_); refine goesL_ (some 63) rfl rfl Try.func16 (by kernel_rfl) rfl #[.agg #[.int .i64 t235, .int .i64 t236, .slice Ao130 x242002_2.length co130, .int .i64 t240], .agg #[.int .i64 a0_0, .int .i64 a0_1, .slice A0_2 l0_2.length c0_2, .int .i64 a0_3]] rfl (by (try simp only [List.map_toArray, List.map_cons, List.map_nil]); first | done | rfl | (simp only [List.length_drop, List.length_take]; rfl)) ?_; (with_reducible refine (rialtoref08_Same.calls k2 t235 t236 _ _ x242002_2 t240 a0_0 a0_1 _ _ l0_2 a0_3 false _ ?side1 ?side2 ?side3 ?side4 A98.out).mono ?_); (case side1 => repeat (first | exact (Kd.R_reads' HO_242002.out).2.2 | (with_reducible refine Kd.C_alloc ?_ _) | (with_reducible refine Kd.C_drewN ?_ _) | (with_reducible refine Kd.C_drew ?_))); (case side2 => exact (Kd.R_reads' HO_242002.out).2.1); (case side3 => repeat (first | exact (Kd.C_below HR0_2.out HB.out) | (with_reducible refine Kd.C_alloc ?_ _) | (with_reducible refine Kd.C_drewN ?_ _) | (with_reducible refine Kd.C_drew ?_))); (case side4 => exact HC0_2.out); rintro e w131 ⟨rfl, hb⟩; refine ⟨_, rfl, ?_⟩; have n0_ := Aside0.mk (Kd.R_below (by (with_reducible repeat (first | apply Kd.R_alloc | apply Kd.R_drewN | apply Kd.R_drew)); exact HO_242002.out) hb); have n1_ := Aside0.mk (Kd.R_below (by (with_reducible repeat (first | apply Kd.R_alloc | apply Kd.R_drewN | apply Kd.R_drew)); exact HO_251002.out) hb); have n2_ := Aside0.mk (Kd.R_below (by (with_reducible repeat (first | apply Kd.R_alloc | apply Kd.R_drewN | apply Kd.R_drew)); exact HO_260002.out) hb); have n3_ := Aside0.mk (blk_below (g := gb233) (o := .cells #[.int .i64 a0_0, .int .i64 a0_1, .slice A0_2 l0_2.length c0_2, .int .i64 a0_3] 26 (0, 0)) (by (with_reducible repeat (first | refine blk_drewN ?_ _ | refine blk_drew ?_ | refine blk_alloc ?_ _)); exact BK233.out) hb); have n4_ := Aside0.mk (blk_below (g := gb234) (o := .cells #[.int .i64 a1_0, .int .i64 a1_1] 23 (0, 0)) (by (with_reducible repeat (first | refine blk_drewN ?_ _ | refine blk_drew ?_ | refine blk_alloc ?_ _)); exact BK234.out) hb); have n5_ := Aside0.mk (blk_below (g := gb241) (o := .cells #[.int .i64 t235, .int .i64 t236, .slice Ao130 x242002_2.length co130, .int .i64 t240] 26 (0, 0)) (by (with_reducible repeat (first | refine blk_drewN ?_ _ | refine blk_drew ?_ | refine blk_alloc ?_ _)); exact BK241.out) hb); have n6_ := Aside0.mk (blk_below (g := gb250) (o := .cells #[.int .i64 t242, .int .i64 t243, .slice Ao122 x251002_2.length co122, .int .i64 t247] 26 (0, 0)) (by (with_reducible repeat (first | refine blk_drewN ?_ _ | refine blk_drew ?_ | refine blk_alloc ?_ _)); exact BK250.out) hb); have n7_ := Aside0.mk (blk_below (g := gb259) (o := .cells #[.int .i64 t251, .int .i64 t252, u260002, .int .i64 t256] 26 (0, 0)) (by (with_reducible repeat (first | refine blk_drewN ?_ _ | refine blk_drew ?_ | refine blk_alloc ?_ _)); exact BK259.out) hb); have n8_ := Aside0.mk (below_step (by repeat (first | (with_reducible first | exact HB.out | apply below_alloc | apply pw_below_drewN | apply below_drew1 | refine below_set ?_ GE233.out | refine below_set ?_ GE234.out | refine below_set ?_ GE241.out | refine below_set ?_ GE250.out | refine below_set ?_ GE259.out) | exact HB.out)) hb); clear HO_242002; clear HO_251002; clear HO_260002; clear BK233; clear BK234; clear BK241; clear BK250; clear BK259; clear HB; have HO_242002 := n0_; have HO_251002 := n1_; have HO_260002 := n2_; have BK233 := n3_; have BK234 := n4_; have BK241 := n5_; have BK250 := n6_; have BK259 := n7_; have HB := n8_; clear n0_ n1_ n2_ n3_ n4_ n5_ n6_ n7_ n8_; (try clear hb); (try clear hb2); (try clear hk); (try clear hi)))
                go_ret
                exact ⟨by first | rfl | (simp [errW_none, errW_some] <;> rfl) | (simp [*, errW_none, errW_some] <;> rfl), by repeat (first | (with_reducible first | exact HB.out | apply below_alloc | apply pw_below_drewN | apply below_drew1 | refine below_set ?_ GE233.out | refine below_set ?_ GE234.out | refine below_set ?_ GE241.out | refine below_set ?_ GE250.out | refine below_set ?_ GE259.out) | exact HB.out)⟩

end Go.Proofs.Ytiebeiloooblpaa.E
end
section
-- the statement of a law, by myprint.py
namespace Go.Proofs.Ytiebeiloooblpaa.E
open Go.RowKit Go.Proofs.YtiebeiloooblpaaW.PrintWords Go.Proofs.YtiebeiloooblpaaW.PrintLast Go.Proofs.YtiebeiloooblpaaW.PrintMore
attribute [local go_sem] max2_int min2_int max_two min_two max_three min_three max_four min_four   -- for this text's walks alone
set_option linter.unusedVariables false
set_option linter.unusedSimpArgs false

def GEl33 (x : S33) : Prop := ((Lit.int .i64 x.f0).wf = true) ∧ ((Lit.int .i64 x.f1).wf = true) ∧ x.f2.size ≤ 140737488351232
/-- THE PURE STATEMENT of rialtolaw09_SnapInstalls. -/
def rialtolaw09_SnapInstalls.Pure : Prop := ∀ (a0_0 : Int) (a0_1 : Int) (l0_2 : List (S33)) (a0_3 : Int) (a1_0 : Int) (a1_1 : Int), ((Lit.int .i64 a0_0).wf = true) → ((Lit.int .i64 a0_1).wf = true) → (l0_2.length * 32 ≤ 140737488351232 ∧ ∀ y_ ∈ l0_2, GEl33 y_) → ((Lit.int .i64 a0_3).wf = true) → ((Lit.int .i64 a1_0).wf = true) → ((Lit.int .i64 a1_1).wf = true) → ∃ k, rialtolaw09_SnapInstalls.f k a0_0 a0_1 l0_2 a0_3 a1_0 a1_1 = some true
end Go.Proofs.Ytiebeiloooblpaa.E
end
section
/- Rounds: from some round on a function answers; words for plain laws. -/
namespace Go.Proofs.YtiebeiloooblpaaW.PrintWords
theorem Ev.eqv {α : Type} {F : Nat → Option α} {v u : α} (h : Ev F u) (e : u = v) : Ev F v := e ▸ h
theorem Ev.ite {α : Type} {c : Prop} [Decidable c] {F G : Nat → Option α} {v : α} (h : c → Ev F v) (g : ¬ c → Ev G v) : Ev (fun k => if c then F k else G k) v := by
  by_cases hc : c
  · simpa [hc] using h hc
  · simpa [hc] using g hc
theorem Ev.pos {α : Type} {c : Prop} [Decidable c] {F G : Nat → Option α} {v : α} (hc : c) (h : Ev F v) : Ev (fun k => if c then F k else G k) v := by
  simpa [hc] using h
theorem Ev.neg {α : Type} {c : Prop} [Decidable c] {F G : Nat → Option α} {v : α} (hc : ¬ c) (h : Ev G v) : Ev (fun k => if c then F k else G k) v := by
  simpa [hc] using h
theorem Ev.succ {α : Type} {F : Nat → Option α} {v : α} (h : Ev (fun k => F (k + 1)) v) : Ev F v := Ev.step (fun _ => rfl) h
end Go.Proofs.YtiebeiloooblpaaW.PrintWords
namespace Go.Proofs.YtiebeiloooblpaaEV
open Go.RowKit Go.Proofs.YtiebeiloooblpaaW.PrintWords
theorem w64 (n : Int) (h0 : -9223372036854775808 ≤ n) (h1 : n ≤ 9223372036854775807) : wrap64 n = n := by
  unfold wrap64; omega
theorem drop_one {α : Type} (l : List α) (d : α) (n : Nat) (h : n < l.length) : l.drop n = l.getD n d :: l.drop (n + 1) := by
  rw [List.drop_eq_getElem_cons h]; simp [List.getD, h]
end Go.Proofs.YtiebeiloooblpaaEV
end
section
namespace Go.Proofs.Ytiebeiloooblpaa.Pure
open Go.RowKit Go.Proofs.Ytiebeiloooblpaa.E Go.Proofs.YtiebeiloooblpaaW.PrintWords Go.Proofs.YtiebeiloooblpaaW.PrintLast Go.Proofs.YtiebeiloooblpaaW.PrintMore Go.Proofs.YtiebeiloooblpaaEV
-- the plain law of layer 8's logs
def isEn (x : S33) : Bool := entries_isEntry.p x.f0 x.f1 x.f2
def isMk (i t : Int) : Bool := (decide (0 ≤ i) && decide (i ≤ 1000000)) && ((decide (0 ≤ t) && decide (t ≤ 1000000)) && ((i == 0) == (t == 0)))
def rows : List S33 → Int → Bool
  | [], _ => true
  | x :: l, f => isEn x && (decide (f ≤ x.f0) && rows l x.f0)
def chk (b0 b1 : Int) (l : List S33) (c : Int) : Bool := isMk b0 b1 && (decide (l.length ≤ 400) && (rows l b1 && (decide (b0 + l.length ≤ 1000000) && (decide (b0 ≤ c) && decide (c ≤ b0 + l.length)))))

theorem entries_within_eq (a b c : Int) : entries_within.f a b c = some (decide (b ≤ a) && decide (a ≤ c)) := by
  unfold entries_within.f; by_cases h : b ≤ a <;> simp [h]
theorem ref08_within_eq (a b c : Int) : rialtoref08_within.f a b c = some (decide (b ≤ a) && decide (a ≤ c)) := by
  unfold rialtoref08_within.f; by_cases h : b ≤ a <;> simp [h]
theorem ref07_within_eq (a b c : Int) : rialtoref07_within.f a b c = some (decide (b ≤ a) && decide (a ≤ c)) := by
  unfold rialtoref07_within.f; by_cases h : b ≤ a <;> simp [h]
theorem entries_isMark_eq (i t : Int) : entries_isMark.f i t = some (isMk i t) := by
  unfold entries_isMark.f isMk
  simp only [entries_within_eq, Option.bind_some]
  by_cases h : (decide (0 ≤ i) && decide (i ≤ 1000000)) = true
  · rw [if_pos h, h]
    by_cases g : (decide (0 ≤ t) && decide (t ≤ 1000000)) = true
    · rw [if_pos g, g]; simp
    · rw [if_neg g]; simp [Bool.eq_false_iff.mpr g]
  · rw [if_neg h]; simp [Bool.eq_false_iff.mpr h]
theorem ref07_Mark_eq (i t : Int) : rialtoref07_Mark.f i t = some (isMk i t) := by
  unfold rialtoref07_Mark.f isMk
  simp only [ref07_within_eq, Option.bind_some]
  by_cases h : (decide (0 ≤ i) && decide (i ≤ 1000000)) = true
  · rw [if_pos h, h]
    by_cases g : (decide (0 ≤ t) && decide (t ≤ 1000000)) = true
    · rw [if_pos g, g]; simp
    · rw [if_neg g]; simp [Bool.eq_false_iff.mpr g]
  · rw [if_neg h]; simp [Bool.eq_false_iff.mpr h]
theorem ref08_Entry_eq (a b : Int) (s : ByteArray) : rialtoref08_Entry.f a b s = some (entries_isEntry.p a b s) := by
  unfold rialtoref08_Entry.f entries_isEntry.p
  simp only [ref08_within_eq, Option.bind_some]
  by_cases h : (decide (1 ≤ a) && decide (a ≤ 1000000)) = true
  · rw [if_pos h, h]
    by_cases hb : b = 1
    · subst hb
      by_cases hs : s.toList = ([] : List UInt8)
      · simp [hs]
      · simp [hs]
    · by_cases hb2 : b = 2
      · subst hb2; simp
      · simp [hb, hb2]
  · rw [if_neg h]; simp [Bool.eq_false_iff.mpr h]
theorem rd33 (l : List S33) (n : Nat) : rd_T33 l (n : Int) = l.getD n z33 := by simp [rd_T33]

theorem entries_rising_l (l : List S33) (hl : l.length < 4398046511104) (m n : Nat) (hn : n + m = l.length) (a : Int) :
    Ev (fun k => entries_rising.l0 k a l (l.length : Int) (n : Int)) (rows (l.drop n) a) := by
  induction m generalizing n a with
  | zero =>
    refine Ev.succ ?_
    simp only [entries_rising.l0]
    refine Ev.neg (by omega) ?_
    rw [List.drop_eq_nil_of_le (by omega)]
    exact Ev.now _
  | succ m ih =>
    refine Ev.succ ?_
    simp only [entries_rising.l0]
    refine Ev.pos (by omega) ?_
    refine Ev.pos (by omega) ?_
    refine Ev.pos (by omega) ?_
    rw [rd33, drop_one l z33 n (by omega)]
    unfold entries_isEntry.f
    simp only [Option.bind_some, rows, isEn]
    by_cases h : entries_isEntry.p (l.getD n z33).f0 (l.getD n z33).f1 (l.getD n z33).f2 = true
    · simp only [h, if_true, Bool.true_and]
      by_cases g : (l.getD n z33).f0 < a
      · simp only [g, if_true]
        rw [decide_eq_false (show ¬ a ≤ (l.getD n z33).f0 by omega), Bool.false_and]
        exact Ev.now _
      · simp only [g, if_false]
        rw [w64 _ (by omega) (by omega)]
        have := ih (n + 1) (by omega) (l.getD n z33).f0
        rw [decide_eq_true (show a ≤ (l.getD n z33).f0 by omega), Bool.true_and]
        exact this
    · simp only [Bool.eq_false_iff.mpr h, Bool.false_eq_true, if_false, Bool.false_and]
      exact Ev.now _
theorem ref08_Rows_l (l : List S33) (hl : l.length < 4398046511104) (m n : Nat) (hn : n + m = l.length) (a : Int) :
    Ev (fun k => rialtoref08_Rows.l0 k l a (n : Int)) (rows (l.drop n) a) := by
  induction m generalizing n a with
  | zero =>
    refine Ev.succ ?_
    simp only [rialtoref08_Rows.l0]
    refine Ev.neg (by omega) ?_
    rw [List.drop_eq_nil_of_le (by omega)]
    exact Ev.now _
  | succ m ih =>
    refine Ev.succ ?_
    simp only [rialtoref08_Rows.l0]
    refine Ev.pos (by omega) ?_
    refine Ev.pos (by omega) ?_
    rw [rd33, drop_one l z33 n (by omega)]
    simp only [ref08_Entry_eq, Option.bind_some, rows, isEn]
    by_cases h : entries_isEntry.p (l.getD n z33).f0 (l.getD n z33).f1 (l.getD n z33).f2 = true
    · simp only [h, if_true, Bool.true_and]
      by_cases g : (l.getD n z33).f0 < a
      · simp only [g, if_true]
        rw [decide_eq_false (show ¬ a ≤ (l.getD n z33).f0 by omega), Bool.false_and]
        exact Ev.now _
      · simp only [g, if_false]
        rw [w64 _ (by omega) (by omega)]
        have := ih (n + 1) (by omega) (l.getD n z33).f0
        rw [decide_eq_true (show a ≤ (l.getD n z33).f0 by omega), Bool.true_and]
        exact this
    · simp only [Bool.eq_false_iff.mpr h, Bool.false_eq_true, if_false, Bool.false_and]
      exact Ev.now _
theorem entries_rising_ev (l : List S33) (hl : l.length < 4398046511104) (a : Int) : Ev (fun k => entries_rising.f k l a) (rows l a) := by
  have := entries_rising_l l hl l.length 0 (by omega) a
  simpa [entries_rising.f] using this
theorem ref08_Rows_ev (l : List S33) (hl : l.length < 4398046511104) (a : Int) : Ev (fun k => rialtoref08_Rows.f k l a) (rows l a) := by
  have := ref08_Rows_l l hl l.length 0 (by omega) a
  simpa [rialtoref08_Rows.f] using this
theorem isMk_of {i t : Int} (h : isMk i t = true) : 0 ≤ i ∧ i ≤ 1000000 ∧ 0 ≤ t ∧ t ≤ 1000000 ∧ (i = 0 ↔ t = 0) := by
  simp only [isMk, Bool.and_eq_true, decide_eq_true_eq, beq_iff_eq] at h
  obtain ⟨⟨h1, h2⟩, ⟨h3, h4⟩, h5⟩ := h
  refine ⟨h1, h2, h3, h4, ?_⟩
  by_cases hi : i = 0
  · by_cases ht : t = 0
    · simp [hi, ht]
    · simp [hi, ht] at h5
  · by_cases ht : t = 0
    · simp [hi, ht] at h5
    · simp [hi, ht]
theorem chk_of {b0 b1 : Int} {l : List S33} {c : Int} (h : chk b0 b1 l c = true) : (0 ≤ b0 ∧ b0 ≤ 1000000 ∧ 0 ≤ b1 ∧ b1 ≤ 1000000 ∧ (b0 = 0 ↔ b1 = 0)) ∧ l.length ≤ 400 ∧ rows l b1 = true ∧ b0 + l.length ≤ 1000000 ∧ b0 ≤ c ∧ c ≤ b0 + l.length := by
  simp only [chk, Bool.and_eq_true, decide_eq_true_eq] at h
  obtain ⟨h1, h2, h3, h4, h5, h6⟩ := h
  exact ⟨isMk_of h1, h2, h3, h4, h5, h6⟩
theorem entries_Check_ev (b0 b1 : Int) (l : List S33) (c : Int) (hl : l.length < 4398046511104) :
    Ev (fun k => entries_Check.f k b0 b1 l c) (if chk b0 b1 l c = true then 0 else 80) := by
  unfold entries_Check.f chk
  simp only [entries_isMark_eq, Option.bind_some]
  by_cases h1 : isMk b0 b1 = true
  · have hm := isMk_of h1
    simp only [h1, if_true, Bool.true_and]
    by_cases h2 : (l.length : Int) > 400
    · simp only [h2, if_true]
      rw [decide_eq_false (show ¬ l.length ≤ 400 by omega)]
      simp only [Bool.false_and, Bool.false_eq_true, if_false]
      exact Ev.now _
    · simp only [h2, if_false]
      rw [decide_eq_true (show l.length ≤ 400 by omega)]
      simp only [Bool.true_and]
      refine Ev.bind (entries_rising_ev l hl b1) ?_
      by_cases h3 : rows l b1 = true
      · simp only [h3, if_true, Bool.true_and, entries_end.f, Option.bind_some, entries_within_eq]
        rw [w64 _ (by omega) (by omega)]
        by_cases h4 : b0 + (l.length : Int) ≤ 1000000
        · refine Ev.neg (by omega) ?_
          simp only [h4, decide_true, Bool.true_and]
          refine Ev.ite (fun h5 => ?_) (fun h5 => ?_)
          · rw [h5]; exact Ev.now _
          · rw [Bool.eq_false_iff.mpr h5]; exact Ev.now _
        · refine Ev.pos (by omega) ?_
          simp only [h4, decide_false, Bool.false_and, Bool.false_eq_true, if_false]
          exact Ev.now _
      · simp only [Bool.eq_false_iff.mpr h3, Bool.false_and, Bool.false_eq_true, if_false]
        exact Ev.now _
  · simp only [Bool.eq_false_iff.mpr h1, Bool.false_and, Bool.false_eq_true, if_false]
    exact Ev.now _
theorem ref08_Check_ev (b0 b1 : Int) (l : List S33) (c : Int) (hl : l.length < 4398046511104) :
    Ev (fun k => rialtoref08_Check.f k b0 b1 l c) (if chk b0 b1 l c = true then 0 else 80) := by
  unfold rialtoref08_Check.f chk
  simp only [ref07_Mark_eq, Option.bind_some]
  by_cases h1 : isMk b0 b1 = true
  · have hm := isMk_of h1
    simp only [h1, if_true, Bool.true_and]
    by_cases h2 : (l.length : Int) > 400
    · simp only [h2, if_true]
      rw [decide_eq_false (show ¬ l.length ≤ 400 by omega)]
      simp only [Bool.false_and, Bool.false_eq_true, if_false]
      exact Ev.now _
    · simp only [h2, if_false]
      rw [decide_eq_true (show l.length ≤ 400 by omega)]
      simp only [Bool.true_and]
      refine Ev.bind (ref08_Rows_ev l hl b1) ?_
      by_cases h3 : rows l b1 = true
      · simp only [h3, if_true, Bool.true_and, rialtoref08_end.f, Option.bind_some, ref08_within_eq]
        rw [w64 _ (by omega) (by omega)]
        by_cases h4 : b0 + (l.length : Int) ≤ 1000000
        · refine Ev.neg (by omega) ?_
          simp only [h4, decide_true, Bool.true_and]
          refine Ev.ite (fun h5 => ?_) (fun h5 => ?_)
          · rw [h5]; exact Ev.now _
          · rw [Bool.eq_false_iff.mpr h5]; exact Ev.now _
        · refine Ev.pos (by omega) ?_
          simp only [h4, decide_false, Bool.false_and, Bool.false_eq_true, if_false]
          exact Ev.now _
      · simp only [Bool.eq_false_iff.mpr h3, Bool.false_and, Bool.false_eq_true, if_false]
        exact Ev.now _
  · simp only [Bool.eq_false_iff.mpr h1, Bool.false_and, Bool.false_eq_true, if_false]
    exact Ev.now _
/-- the term at an index of a log -/
def termAt (b0 b1 : Int) (l : List S33) (c i : Int) : Int × Bool :=
  if chk b0 b1 l c = true ∧ b0 ≤ i ∧ i ≤ b0 + l.length then (if i = b0 then (b1, true) else ((l.getD (i - b0 - 1).toNat z33).f0, true)) else (0, false)
theorem entries_TermAt_ev (b0 b1 : Int) (l : List S33) (c i : Int) (hl : l.length < 4398046511104) :
    Ev (fun k => entries_TermAt.f k b0 b1 l c i) (termAt b0 b1 l c i) := by
  unfold entries_TermAt.f termAt
  refine Ev.bind (entries_Check_ev b0 b1 l c hl) ?_
  by_cases h1 : chk b0 b1 l c = true
  · obtain ⟨hm, hn, hr, he, hc⟩ := chk_of h1
    simp only [h1, if_true, true_and, entries_end.f, entries_within_eq, Option.bind_some]
    rw [w64 _ (by omega) (by omega)]
    refine Ev.succ ?_
    simp only [entries_TermAt.j0]
    by_cases h2 : b0 ≤ i ∧ i ≤ b0 + l.length
    · rw [if_pos h2]
      obtain ⟨h2, h3⟩ := h2
      refine Ev.neg (by simp; omega) ?_
      by_cases h4 : i = b0
      · refine Ev.eqv ?_ (if_pos h4).symm
        exact Ev.pos h4 (Ev.now _)
      · refine Ev.eqv ?_ (if_neg h4).symm
        have e : wrap64 (wrap64 (i - b0) - 1) = i - b0 - 1 := by rw [w64 (i - b0) (by omega) (by omega), w64 _ (by omega) (by omega)]
        rw [e]
        exact Ev.neg h4 (Ev.pos (by omega) (Ev.pos (by omega) (Ev.now _)))
    · rw [if_neg h2]
      exact Ev.pos (by simp; omega) (Ev.now _)
  · simp only [Bool.eq_false_iff.mpr h1, Bool.false_eq_true, if_false, false_and]
    refine Ev.neg (by omega) ?_
    refine Ev.succ ?_
    simp only [entries_TermAt.j0, if_true]
    exact Ev.now _
theorem ref08_TermAt_ev (b0 b1 : Int) (l : List S33) (c i : Int) (hl : l.length < 4398046511104) :
    Ev (fun k => rialtoref08_TermAt.f k b0 b1 l c i) (termAt b0 b1 l c i) := by
  unfold rialtoref08_TermAt.f termAt
  refine Ev.bind (ref08_Check_ev b0 b1 l c hl) ?_
  by_cases h1 : chk b0 b1 l c = true
  · obtain ⟨hm, hn, hr, he, hc⟩ := chk_of h1
    simp only [h1, if_true, true_and, rialtoref08_end.f, Option.bind_some]
    rw [w64 (b0 + (l.length : Int)) (by omega) (by omega)]
    by_cases h2 : b0 ≤ i
    · refine Ev.neg (by omega) ?_
      refine Ev.succ ?_
      simp only [rialtoref08_TermAt.j0]
      by_cases h3 : i ≤ b0 + l.length
      · rw [if_pos (And.intro h2 h3)]
        refine Ev.neg (by simp; omega) ?_
        by_cases h4 : i = b0
        · refine Ev.eqv ?_ (if_pos h4).symm
          exact Ev.pos h4 (Ev.now _)
        · refine Ev.eqv ?_ (if_neg h4).symm
          have e : wrap64 (wrap64 (i - b0) - 1) = i - b0 - 1 := by rw [w64 (i - b0) (by omega) (by omega), w64 _ (by omega) (by omega)]
          rw [e]
          exact Ev.neg h4 (Ev.pos (by omega) (Ev.pos (by omega) (Ev.now _)))
      · rw [if_neg (show ¬ (b0 ≤ i ∧ i ≤ b0 + l.length) by omega)]
        exact Ev.pos (by simp; omega) (Ev.now _)
    · rw [if_neg (by omega)]
      refine Ev.pos (by omega) ?_
      refine Ev.succ ?_
      simp only [rialtoref08_TermAt.j0, if_true]
      exact Ev.now _
  · simp only [Bool.eq_false_iff.mpr h1, Bool.false_eq_true, if_false, false_and]
    refine Ev.neg (by omega) ?_
    refine Ev.succ ?_
    simp only [rialtoref08_TermAt.j0, if_true]
    exact Ev.now _
theorem ref08_SameEntries_l (l : List S33) (hl : l.length < 4398046511104) (m n : Nat) (hn : n + m = l.length) :
    Ev (fun k => rialtoref08_SameEntries.l0 k l l (n : Int)) true := by
  induction m generalizing n with
  | zero =>
    refine Ev.succ ?_
    simp only [rialtoref08_SameEntries.l0]
    refine Ev.neg (by omega) ?_
    exact Ev.now _
  | succ m ih =>
    refine Ev.succ ?_
    simp only [rialtoref08_SameEntries.l0]
    refine Ev.pos (by omega) ?_
    refine Ev.pos (by omega) ?_
    refine Ev.pos (by omega) ?_
    refine Ev.neg (by simp) ?_
    rw [w64 _ (by omega) (by omega)]
    exact ih (n + 1) (by omega)
theorem ref08_SameEntries_ev (l : List S33) (hl : l.length < 4398046511104) : Ev (fun k => rialtoref08_SameEntries.f k l l) true := by
  have := ref08_SameEntries_l l hl l.length 0 (by omega)
  simpa [rialtoref08_SameEntries.f] using this
theorem ref08_Same_ev (b0 b1 : Int) (l : List S33) (c : Int) (hl : l.length < 4398046511104) : Ev (fun k => rialtoref08_Same.f k b0 b1 l c b0 b1 l c) true := by
  unfold rialtoref08_Same.f
  refine Ev.pos (by simp) ?_
  refine Ev.pos rfl ?_
  exact Ev.bind (ref08_SameEntries_ev l hl) (Ev.now _)
theorem ref08_Copy_eq (b0 b1 : Int) (l : List S33) (c : Int) (hl : l.length < 4398046511104) : rialtoref08_Copy.f b0 b1 l c = some (b0, b1, l, c) := by
  unfold rialtoref08_Copy.f
  rw [if_pos (by simp; omega)]; simp
end Go.Proofs.Ytiebeiloooblpaa.Pure
end
section
-- written by myprint.py, a program of this session over the kit's print.py
namespace Go.Proofs.Ytiebeiloooblpaa.E
open Go.RowKit Go.Proofs.YtiebeiloooblpaaW.PrintWords Go.Proofs.YtiebeiloooblpaaW.PrintLast Go.Proofs.YtiebeiloooblpaaW.PrintMore
attribute [local go_sem] max2_int min2_int max_two min_two max_three min_three max_four min_four   -- for this text's walks alone
set_option linter.unusedVariables false
set_option linter.unusedSimpArgs false

/-! ### rialtoref09_Compact: function 15 -/
end Go.Proofs.Ytiebeiloooblpaa.E
end
section
namespace Go.Proofs.Ytiebeiloooblpaa.Pure
open Go.RowKit Go.Proofs.Ytiebeiloooblpaa.E Go.Proofs.YtiebeiloooblpaaW.PrintWords Go.Proofs.YtiebeiloooblpaaW.PrintLast Go.Proofs.YtiebeiloooblpaaW.PrintMore Go.Proofs.YtiebeiloooblpaaEV
-- the plain law of layer 9
def install (b0 b1 : Int) (l : List S33) (c m0 m1 : Int) : Int × Int × List S33 × Int × Bool × Int :=
  if chk b0 b1 l c = true then (if m0 < 1 ∨ 1000000 < m0 ∨ m1 < 1 ∨ 1000000 < m1 then (0, 0, [], 0, false, 1) else
    if m0 ≤ c then (b0, b1, l, c, false, 0) else
    if (termAt b0 b1 l c m0).2 = true ∧ (termAt b0 b1 l c m0).1 = m1 then (m0, m1, l.drop (m0 - b0).toNat, m0, true, 0) else (m0, m1, [], m0, true, 0)) else (0, 0, [], 0, false, 90)
theorem ref09_behind_eq (b0 b1 : Int) (l : List S33) (c i : Int) (hl : l.length < 4398046511104) (h0 : 0 ≤ b0) (h1 : b0 ≤ i) (h2 : i ≤ b0 + l.length) (h3 : i ≤ 1000000) : rialtoref09_behind.f b0 b1 l c i = some (l.drop (i - b0).toNat) := by
  unfold rialtoref09_behind.f
  rw [w64 _ (by omega) (by omega), if_pos (by omega), if_pos (by omega), Option.bind_some, if_pos (by simp; omega)]
  simp
theorem snap_Install_ev (b0 b1 : Int) (l : List S33) (c m0 m1 : Int) (hl : l.length < 4398046511104) : Ev (fun k => snap_Install.f k b0 b1 l c m0 m1) (install b0 b1 l c m0 m1) := by
  unfold snap_Install.f install
  refine Ev.bind (entries_Check_ev b0 b1 l c hl) ?_
  by_cases h1 : chk b0 b1 l c = true
  · obtain ⟨hm, hn, hr, he, hc⟩ := chk_of h1
    simp only [h1, if_true]
    by_cases h2 : m0 < 1 ∨ 1000000 < m0 ∨ m1 < 1 ∨ 1000000 < m1
    · simp only [h2, if_true]; exact Ev.now _
    · simp only [h2, if_false]
      by_cases h3 : m0 ≤ c
      · simp only [h3, if_true, hl]; exact Ev.now _
      · simp only [h3, if_false]
        refine Ev.bind (entries_TermAt_ev b0 b1 l c m0 hl) ?_
        by_cases h4 : (termAt b0 b1 l c m0).2 = true ∧ (termAt b0 b1 l c m0).1 = m1
        · have h5 : m0 ≤ b0 + l.length := by
            have := h4.1
            unfold termAt at this
            by_cases g : chk b0 b1 l c = true ∧ b0 ≤ m0 ∧ m0 ≤ b0 + l.length
            · exact g.2.2
            · rw [if_neg g] at this; cases this
          simp only [h4, and_self, if_true]
          unfold snap_cut
          rw [w64 _ (by omega) (by omega), if_pos (by omega)]
          exact Ev.now _
        · simp only [h4, if_false]; exact Ev.now _
  · simp only [h1]
    exact Ev.now _
theorem ref09_Install_ev (b0 b1 : Int) (l : List S33) (c m0 m1 : Int) (hl : l.length < 4398046511104) : Ev (fun k => rialtoref09_Install.f k b0 b1 l c m0 m1) (install b0 b1 l c m0 m1) := by
  unfold rialtoref09_Install.f install
  refine Ev.bind (ref08_Check_ev b0 b1 l c hl) ?_
  by_cases h1 : chk b0 b1 l c = true
  · obtain ⟨hm, hn, hr, he, hc⟩ := chk_of h1
    simp only [h1, if_true, ref07_Mark_eq, Option.bind_some]
    by_cases h2 : m0 < 1 ∨ 1000000 < m0 ∨ m1 < 1 ∨ 1000000 < m1
    · rw [if_pos h2]
      by_cases h3 : isMk m0 m1 = true
      · refine Ev.pos h3 (Ev.succ ?_)
        have := isMk_of h3
        simp only [rialtoref09_Install.j0]
        exact Ev.pos (by simp; omega) (Ev.now _)
      · refine Ev.neg h3 (Ev.succ ?_)
        simp only [rialtoref09_Install.j0, if_true]
        exact Ev.now _
    · rw [if_neg h2]
      have h3 : isMk m0 m1 = true := by
        simp only [isMk, Bool.and_eq_true, decide_eq_true_eq]
        refine ⟨by omega, by omega, ?_⟩
        rw [beq_eq_false_iff_ne.mpr (show m0 ≠ 0 by omega), beq_eq_false_iff_ne.mpr (show m1 ≠ 0 by omega)]; rfl
      refine Ev.pos h3 (Ev.succ ?_)
      simp only [rialtoref09_Install.j0]
      refine Ev.neg (by simp; omega) ?_
      by_cases h4 : m0 ≤ c
      · simp only [h4, if_true, ref08_Copy_eq b0 b1 l c hl, Option.bind_some]
        exact Ev.now _
      · simp only [h4, if_false]
        refine Ev.bind (ref08_TermAt_ev b0 b1 l c m0 hl) ?_
        by_cases h5 : (termAt b0 b1 l c m0).2 = true
        · have h6 : m0 ≤ b0 + l.length := by
            have := h5
            unfold termAt at this
            by_cases g : chk b0 b1 l c = true ∧ b0 ≤ m0 ∧ m0 ≤ b0 + l.length
            · exact g.2.2
            · rw [if_neg g] at this; cases this
          refine Ev.pos h5 ?_
          by_cases h7 : (termAt b0 b1 l c m0).1 = m1
          · rw [if_pos (And.intro h5 h7)]
            refine Ev.pos h7 ?_
            rw [ref09_behind_eq b0 b1 l c m0 hl (by omega) (by omega) (by omega) (by omega)]
            exact Ev.now _
          · refine Ev.eqv ?_ (if_neg (fun h => h7 h.2)).symm
            exact Ev.neg h7 (Ev.now _)
        · refine Ev.eqv ?_ (if_neg (fun h => h5 h.1)).symm
          exact Ev.neg h5 (Ev.now _)
  · simp only [h1]
    exact Ev.now _
theorem live_ev : Ev (fun k => rialtolaw09_live.f k) true := Ev.of (k := 20) (fun k => rialtolaw09_live.mono k) (by kernel_rfl)

end Go.Proofs.Ytiebeiloooblpaa.Pure
end
section
namespace Go.Proofs.Ytiebeiloooblpaa.Pure
open Go.RowKit Go.Proofs.Ytiebeiloooblpaa.E Go.Proofs.YtiebeiloooblpaaW.PrintWords Go.Proofs.YtiebeiloooblpaaW.PrintLast Go.Proofs.YtiebeiloooblpaaW.PrintMore Go.Proofs.YtiebeiloooblpaaEV
theorem spoilInstalls (b0 b1 : Int) (l : List S33) (c : Int) (hl : l.length < 4398046511104) (a0 a1 a3 : Int) (m n : Nat) (q : List S33) (hq : q.length < 4398046511104) (hn : n + m = q.length) :
    Ev (fun k => rialtolaw09_SnapInstalls.l0 k (n : Int) b0 b1 l c b0 b1 l c a0 a1 q a3) true := by
  induction m generalizing n q with
  | zero =>
    refine Ev.succ ?_
    simp only [rialtolaw09_SnapInstalls.l0]
    refine Ev.neg (by omega) (Ev.bind (ref08_Same_ev b0 b1 l c hl) (Ev.pos rfl (Ev.bind live_ev (Ev.now _))))
  | succ m ih =>
    refine Ev.succ ?_
    simp only [rialtolaw09_SnapInstalls.l0]
    refine Ev.pos (by omega) (Ev.pos (by omega) ?_)
    rw [w64 _ (by omega) (by omega)]
    exact ih (n + 1) _ (by simpa using hq) (by simp; omega)
theorem SnapInstalls : rialtolaw09_SnapInstalls.Pure := by
  intro b0 b1 l c m0 m1 hb0 hb1 hl hc hi hj
  have hn : l.length < 4398046511104 := by have := hl.1; omega
  refine Ev.rounds ?_
  unfold rialtolaw09_SnapInstalls.f
  rw [ref08_Copy_eq b0 b1 l c hn]
  refine Ev.bind (Ev.now _) (Ev.bind (snap_Install_ev b0 b1 l c m0 m1 hn) (Ev.bind (ref09_Install_ev b0 b1 l c m0 m1 hn) ?_))
  have hlen : (install b0 b1 l c m0 m1).2.2.1.length < 4398046511104 := by
    unfold install; split
    · split
      · simp
      · split
        · exact hn
        · split
          · simp; omega
          · simp
    · simp
  refine Ev.bind (ref08_Same_ev _ _ _ _ hlen) (Ev.pos rfl (Ev.neg (by simp) (Ev.pos rfl (Ev.bind (ref08_Same_ev b0 b1 l c hn) (Ev.succ ?_)))))
  simp only [rialtolaw09_SnapInstalls.j0]
  exact Ev.neg (by simp) (spoilInstalls b0 b1 l c hn _ _ _ _ 0 _ hlen (Nat.zero_add _))

end Go.Proofs.Ytiebeiloooblpaa.Pure
end
section
/- Helper lemmas of this session: an argument that reads as data, opened to plain values, whatever its type's depth; and what its size says. -/
namespace Go.Proofs.YtiebeiloooblpaaO
open Go.RowKit Go.Proofs.YtiebeiloooblpaaW.PrintWords Go.Deep

/-- What a bound on a reading says of its slices' lengths (S) and its strings' (T), at every depth. -/
structure Sizes (P : Program) (Bd : (H : Type) → TypeId → DataW H → Prop) (S : TypeId → Nat → Prop) (T : Nat → Prop) : Prop where
  slice : ∀ (H : Type) (t e : TypeId) (es sp : List (DataW H)), P.underlying t = some (.slice e) → Bd H t (.slice es sp) → S e es.length ∧ ∀ d ∈ es, Bd H e d
  zero : ∀ e, S e 0
  string : ∀ (H : Type) (t : TypeId) (bs : List UInt8), Bd H t (.lit (.string bs)) → T bs.length
  struct : ∀ (H : Type) (t : TypeId) (fs : Array Field) (ps : List (DataW H)), P.underlying t = some (.struct fs) → Bd H t (.agg ps) → ∀ (i : Nat) (f : Field) (p : DataW H), fs[i]? = some f → ps[i]? = some p → Bd H f.type p

/-- Values of type t read as d's; G: what is known of them. -/
structure Opens {α : Type} (P : Program) (Bd : (H : Type) → TypeId → DataW H → Prop) (t : TypeId) (d : Kd α) (G : α → Prop) : Prop where
  go : ∀ (H : Type) (enc : TypeId × Value → H) (w : World) (base : Nat) (spare : Nat → Bool) (held : Bool) (fuel : Nat) (cs : List Value) (x : DataW H × List MemPlace),
    DataW.trod enc P w base spare held fuel t cs = some x → Bd H t x.1 → ∃ v, d.K w v cs ∧ G v

theorem add_add' (a : Addr) (i j : Nat) : (a.add i).add j = a.add (i + j) := by
  unfold Addr.add
  by_cases h1 : i = 0 <;> by_cases h2 : j = 0 <;> simp [h1, h2, Nat.add_assoc]
theorem listOf {α : Type} {Q : Nat → α → Prop} : ∀ n, (∀ i, i < n → ∃ v, Q i v) → ∃ xs : List α, xs.length = n ∧ ∀ i p, xs[i]? = some p → Q i p
  | 0, _ => ⟨[], rfl, fun i p h => by simp at h⟩
  | n + 1, h => by
    obtain ⟨xs, hl, hx⟩ := listOf n (fun i hi => h i (by omega))
    obtain ⟨v, hv⟩ := h n (Nat.lt_succ_self n)
    refine ⟨xs ++ [v], by simp [hl], fun i p hp => ?_⟩
    rcases Nat.lt_or_ge i xs.length with hi | hi
    · rw [List.getElem?_append_left hi] at hp
      exact hx i p hp
    · have hlt := (List.getElem?_eq_some_iff.1 hp).1
      rw [List.length_append, List.length_singleton] at hlt
      obtain rfl : i = n := by omega
      rw [List.getElem?_append_right hi] at hp
      simp [hl] at hp
      subst hp
      exact hv

section
variable {P : Program} {Bd : (H : Type) → TypeId → DataW H → Prop} {S : TypeId → Nat → Prop} {T : Nat → Prop}

theorem Opens.int {t : TypeId} {k : IntKind} (ht : P.underlying t = some (.int k)) : Opens P Bd t (Kd.int k) (fun n => (Lit.int k n).wf = true) where
  go H enc w base spare held fuel cs x h hb := by
    obtain ⟨n, rfl, _, hw⟩ := DataW.trod_int ht h
    exact ⟨n, rfl, hw⟩
theorem Opens.string (Z : Sizes P Bd S T) {t : TypeId} (ht : P.underlying t = some .string) : Opens P Bd t Kd.string (fun s => T s.size) where
  go H enc w base spare held fuel cs x h hb := by
    obtain ⟨s, rfl, rfl, _⟩ := DataW.trod_string ht h
    have h1 := Z.string H t _ hb
    rw [Array.length_toList] at h1
    exact ⟨s, rfl, h1⟩
theorem Opens.iso {α β : Type} {d : Kd α} {G : α → Prop} {t : TypeId} (f : β → α) (g : α → β) (hfg : ∀ y, f (g y) = y) (O : Opens P Bd t d G) : Opens P Bd t (Kd.iso d f) (fun x => G (f x)) where
  go H enc w base spare held fuel cs x h hb := by
    obtain ⟨v, hK, hG⟩ := O.go H enc w base spare held fuel cs x h hb
    exact ⟨g v, by show d.K w (f (g v)) cs; rw [hfg]; exact hK, by show G (f (g v)); rw [hfg]; exact hG⟩
theorem Opens.bool {t : TypeId} (ht : P.underlying t = some .bool) : Opens P Bd t Kd.bool (fun _ => True) where
  go H enc w base spare held fuel cs x h hb := by
    cases fuel with
    | zero => simp [DataW.trod] at h
    | succ n =>
      unfold DataW.trod at h
      rw [ht] at h
      split at h <;> first | exact ⟨_, rfl, trivial⟩ | simp_all
theorem Opens.slice (Z : Sizes P Bd S T) {α : Type} {d : Kd α} {G : α → Prop} {t e : TypeId} {S' : Nat → Prop} (hS : ∀ n, S e n → S' n) (ht : P.underlying t = some (.slice e)) (hs : P.cellsOf e = d.sz) (O : Opens P Bd e d G) :
    Opens P Bd t (Kd.slice e d) (fun xs => S' xs.length ∧ ∀ x ∈ xs, G x) where
  go H enc w base spare held fuel cs x h hb := by
    rcases open_slice ht h with ⟨rfl, rfl⟩ | ⟨a, len, cap, m, n, D, Pl, rfl, _, hl, hm, hmm, rfl, hi⟩
    · exact ⟨[], ⟨none, 0, rfl, Nat.le_refl _, Kd.C_nil d w⟩, hS _ (Z.zero e), fun x h => by cases h⟩
    · have hlm : len ≤ m := by rw [hmm]; split <;> omega
      obtain ⟨h1, h2⟩ := Z.slice H t e _ _ ht hb
      rw [List.length_map, List.length_range] at h1
      replace h1 := hS _ h1
      have hel : ∀ i, i < len → ∃ v cs', d.K w v cs' ∧ G v ∧ (∀ j u, cs'[j]? = some u → w.cell? (a.add (i * d.sz + j)) = some u) := by
        intro i hil
        obtain ⟨cs', hc, htr⟩ := hi i (by omega)
        rw [hs] at hc
        obtain ⟨_, hcl, hat⟩ := World.cells?_some hc
        obtain ⟨v, hK, hG⟩ := O.go H enc w base spare held n cs' _ htr (h2 _ (List.mem_map.2 ⟨i, List.mem_range.2 hil, rfl⟩))
        refine ⟨v, cs', hK, hG, fun j u hu => ?_⟩
        have hj : j < d.sz := by rw [← hcl]; exact (List.getElem?_eq_some_iff.1 hu).1
        rw [← add_add', hat j hj, hu]
      obtain ⟨xs, hxl, hx⟩ := listOf len hel
      refine ⟨xs, ⟨some a, cap, by rw [hxl], by rw [hxl]; exact hl, ⟨rfl, by rw [hxl]; simp only [maxLen] at hm; omega, fun hp => ⟨a, rfl, fun j p hj => ?_⟩⟩⟩, by rw [hxl]; exact h1, fun x hxm => ?_⟩
      · obtain ⟨cs', hK, _, hc⟩ := hx j p hj
        exact ⟨cs', d.K_len hK, hK, hc⟩
      · obtain ⟨i, hi⟩ := List.mem_iff_getElem?.1 hxm
        obtain ⟨_, _, hG, _⟩ := hx i x hi
        exact hG

/-- The fields of a struct, from one on. -/
structure OpensFs {α : Type} (P : Program) (Bd : (H : Type) → TypeId → DataW H → Prop) (fs : List Field) (off : Nat) (d : Kd α) (G : α → Prop) : Prop where
  go : ∀ (H : Type) (enc : TypeId × Value → H) (w : World) (base : Nat) (spare : Nat → Bool) (held : Bool) (n : Nat) (cs : List Value) (xs : List (DataW H × List MemPlace)),
    xs.length = fs.length → (∀ (i : Nat) (f : Field), fs[i]? = some f → DataW.trod enc P w base spare held n f.type ((cs.drop f.offset).take (P.cellsOf f.type)) = xs[i]?) → cs.length = off + d.sz →
    (∀ (i : Nat) (f : Field) (p : DataW H × List MemPlace), fs[i]? = some f → xs[i]? = some p → Bd H f.type p.1) → ∃ v, d.K w v (cs.drop off) ∧ G v
theorem OpensFs.one {α : Type} {d : Kd α} {G : α → Prop} {f : Field} {off : Nat} (ho : f.offset = off) (hs : P.cellsOf f.type = d.sz) (O : Opens P Bd f.type d G) : OpensFs P Bd [f] off d G where
  go H enc w base spare held n cs xs hl ht hc hb := by
    obtain ⟨x, rfl⟩ : ∃ x, xs = [x] := List.length_eq_one_iff.1 hl
    have h1 := ht 0 f rfl
    have h2 := hb 0 f x rfl rfl
    rw [ho, hs, List.take_of_length_le (by rw [List.length_drop]; omega)] at h1
    exact O.go H enc w base spare held n _ x (by simpa using h1) h2
theorem OpensFs.cons {α β : Type} {a : Kd α} {b : Kd β} {G : α → Prop} {G' : β → Prop} {f : Field} {fs : List Field} {off : Nat} (ho : f.offset = off) (hs : P.cellsOf f.type = a.sz) (O : Opens P Bd f.type a G)
    (O' : OpensFs P Bd fs (off + a.sz) b G') : OpensFs P Bd (f :: fs) off (Kd.pair a b) (fun v => G v.1 ∧ G' v.2) where
  go H enc w base spare held n cs xs hl ht hc hb := by
    obtain ⟨x, xs, rfl⟩ : ∃ x r, xs = x :: r := by
      cases xs with
      | nil => simp at hl
      | cons x r => exact ⟨x, r, rfl⟩
    have h1 := ht 0 f rfl
    have h2 := hb 0 f x rfl rfl
    rw [ho, hs] at h1
    have hsz : (Kd.pair a b).sz = a.sz + b.sz := rfl
    obtain ⟨v, hv, hg⟩ := O.go H enc w base spare held n _ x (by simpa using h1) h2
    obtain ⟨u, hu, hg'⟩ := O'.go H enc w base spare held n cs xs (by simpa using hl) (fun i f' hf => by simpa using ht (i + 1) f' (by simpa using hf)) (by rw [hc, hsz]; omega) (fun i f' p hf hp => hb (i + 1) f' p (by simpa using hf) (by simpa using hp))
    refine ⟨(v, u), ⟨_, _, ?_, hv, hu⟩, hg, hg'⟩
    rw [← List.drop_drop, List.take_append_drop]
theorem Opens.struct (Z : Sizes P Bd S T) {α : Type} {d : Kd α} {G : α → Prop} {t : TypeId} {fs : Array Field} (ht : P.underlying t = some (.struct fs)) (hs : P.cellsOf t = d.sz) (O : OpensFs P Bd fs.toList 0 d G) : Opens P Bd t d G where
  go H enc w base spare held fuel cs x h hb := by
    obtain ⟨xs, n, _, rfl, hlen, hxl, hf⟩ := DataW.trod_struct ht h
    have h1 := O.go H enc w base spare held n cs xs (by simpa using hxl) (fun i f hi => hf i f (by simpa using hi)) (by rw [hlen, hs]; omega) (fun i f p hi hp => Z.struct H t fs _ ht hb i f p.1 (by simpa using hi) (by rw [List.getElem?_map, hp]; rfl))
    simpa using h1

end

/-- By the form's own reach. -/
def BdReach (P : Program) (H : Type) (t : TypeId) (d : DataW H) : Prop := ∀ n ∈ d.weights P t, n ≤ reachBytes
theorem weightsAll_mem {H : Type} {P : Program} {e : TypeId} {l : List (DataW H)} {d : DataW H} (h : d ∈ l) : ∀ n ∈ d.weights P e, n ∈ DataW.weightsAll P e l := by
  induction l with
  | nil => cases h
  | cons y r ih =>
    intro n hn
    rw [DataW.weightsAll]
    rcases List.mem_cons.1 h with rfl | h
    · exact List.mem_append_left _ hn
    · exact List.mem_append_right _ (ih h n hn)
theorem weightsEach_mem {H : Type} {P : Program} : ∀ {ts : List TypeId} {l : List (DataW H)} {i : Nat} {t : TypeId} {d : DataW H}, ts[i]? = some t → l[i]? = some d → ∀ n ∈ d.weights P t, n ∈ DataW.weightsEach P ts l
  | [], _, _, _, _, h, _, _, _ => by simp at h
  | _ :: _, [], _, _, _, _, h, _, _ => by simp at h
  | t0 :: ts, d0 :: l, 0, t, d, h, h', n, hn => by
    simp at h h'
    subst h
    subst h'
    rw [DataW.weightsEach]
    exact List.mem_append_left _ hn
  | t0 :: ts, d0 :: l, i + 1, t, d, h, h', n, hn => by
    rw [DataW.weightsEach]
    exact List.mem_append_right _ (weightsEach_mem (i := i) (by simpa using h) (by simpa using h') n hn)
theorem sizesReach (P : Program) : Sizes P (BdReach P) (fun e n => n * P.bytesOf e ≤ reachBytes) (fun n => n ≤ reachBytes) where
  slice H t e es sp ht h := by
    unfold BdReach at h
    rw [DataW.weights, ht] at h
    refine ⟨?_, fun d hd n hn => h n (List.mem_cons_of_mem _ (List.mem_append_left _ (weightsAll_mem hd n hn)))⟩
    have h1 := h _ List.mem_cons_self
    exact Nat.le_trans (Nat.mul_le_mul_right _ (Nat.le_add_right _ _)) h1
  zero e := by simp
  string H t bs h := h _ (by simp [DataW.weights])
  struct H t fs ps ht h i f p hf hp := by
    unfold BdReach at h
    rw [DataW.weights, ht] at h
    intro n hn
    exact h n (weightsEach_mem (i := i) (by rw [List.getElem?_map]; simp [hf]) hp n hn)

theorem reach_arg {H : Type} {P : Program} {ts : List TypeId} {l : List (DataW H)} (hk : (DataW.weightsEach P ts l).all (· ≤ reachBytes) = true) {i : Nat} {t : TypeId} {d : DataW H} (ht : ts[i]? = some t) (hd : l[i]? = some d) : BdReach P H t d := by
  intro n hn
  have h := List.all_eq_true.1 hk n (weightsEach_mem ht hd n hn)
  exact of_decide_eq_true h
end Go.Proofs.YtiebeiloooblpaaO
end
