/- Part 6 of the proof of EntriesAccept: the texts that it needs, put together by a program of this session. -/
import Derived.Test.YtiebeiloooblpaaMEntriesAccept5
section
-- written by myprint.py, a program of this session over the kit's print.py
namespace Go.Proofs.Ytiebeiloooblpaa.E
open Go.RowKit Go.Proofs.YtiebeiloooblpaaW.PrintWords Go.Proofs.YtiebeiloooblpaaW.PrintLast Go.Proofs.YtiebeiloooblpaaW.PrintMore
attribute [local go_sem] max2_int min2_int max_two min_two max_three min_three max_four min_four   -- for this text's walks alone
set_option linter.unusedVariables false
set_option linter.unusedSimpArgs false

/-! ### rialtoref08_Rows: function 46 -/
def rialtoref08_Rows.l0 : Nat → List (S33) → Int → Int → Option (Bool)
  | 0, _, _, _ => none
  | k + 1, x0, x1, x5 => if x5 < (x0.length : Int) then (if 0 ≤ x5 then ((rialtoref08_Entry.f ((rd_T33 x0 x5).f0) ((rd_T33 x0 x5).f1) ((rd_T33 x0 x5).f2)).bind fun t324 => (if t324 = true then (if ((rd_T33 x0 x5).f0) < x1 then (some false) else (rialtoref08_Rows.l0 k x0 ((rd_T33 x0 x5).f0) (wrap64 (x5 + 1)))) else (some false))) else (none)) else (some true)
def rialtoref08_Rows.f (k : Nat) (l0 : List (S33)) (a1 : Int) : Option (Bool) := rialtoref08_Rows.l0 k l0 a1 0
set_option maxHeartbeats 8000000 in
set_option maxRecDepth 100000 in
theorem rialtoref08_Rows.calls (k : Nat) (A0 : Option Addr) (c0 : Nat) (l0 : List (S33)) (a1 : Int) (r : Bool) (w : World) (hr0 : Kd.C k33 w A0 l0.length l0) (hc0 : l0.length ≤ c0) (h : rialtoref08_Rows.f k l0 a1 = some r) :
    Calls Try.prog 46 #[.slice A0 l0.length c0, .int .i64 a1] w fun e w' => e = .returned (.bool r) ∧ Below w.heap.size w w' := by
  have hu33 := Try.underlying33
  have HR0 := Aside0.mk hr0
  have HC0 := Aside0.mk hc0
  clear hr0 hc0
  have HB := Aside0.mk (Below.refl w.heap.size w)
  have H : (rialtoref08_Rows.l0 k l0 a1 0) = some r := h
  clear h
  have H' := Aside0.mk H
  clear H
  go_enter Try.func46, Try.ntmps46
  go_wp2
  go_loopg [1, 5] k (fun kq v1 v5 w' => ∃ (x1_1 : Int) (x5_1 : Int), v1 = .int .i64 x1_1 ∧ v5 = .int .i64 x5_1 ∧ Aside0 (rialtoref08_Rows.l0 kq l0 x1_1 x5_1 = some r) ∧ Aside0 (kq ≤ k) ∧ Aside0 (Below w.heap.size w w'))
  case atStart => exact ⟨(a1), (0), (by first | rfl | (simp; done) | (simp [*]; done)), (by first | rfl | (simp; done) | (simp [*]; done)), H', ⟨Nat.le_refl _⟩, ⟨by repeat (first | (with_reducible first | exact HB.out | apply below_alloc | apply pw_below_drewN | apply below_drew1) | exact HB.out)⟩⟩
  case round =>
    clear H'
    obtain ⟨x1_1, x5_1, rfl, rfl, HA, HK1, HB⟩ := hrel
    cases gk with
    | zero => exact absurd HA.out (by simp [rialtoref08_Rows.l0])
    | succ k1 =>
      have H := HA.out
      clear HA
      simp only [rialtoref08_Rows.l0] at H
      by_cases c3 : x5_1 < (l0.length : Int)
      focus
        rw [if_pos c3] at H
        have c3b0 : decide (x5_1 < (l0.length : Int)) = true := decide_eq_true c3
        clear c3
        by_cases c4 : 0 ≤ x5_1
        focus
          rw [if_pos c4] at H
          have c4b0 : decide (0 ≤ x5_1) = true := decide_eq_true c4
          clear c4
          replace H := Option.bind_eq_some_iff.mp H
          obtain ⟨t324, A50, H⟩ := H
          replace H : (if t324 = true then (if ((rd_T33 l0 x5_1).f0) < x1_1 then (some false) else (rialtoref08_Rows.l0 k1 l0 ((rd_T33 l0 x5_1).f0) (wrap64 (x5_1 + 1)))) else (some false)) = some r := H
          have A5 := Aside0.mk A50
          clear A50
          by_cases c6 : t324 = true
          focus
            subst c6
            have H1 : (if ((rd_T33 l0 x5_1).f0) < x1_1 then (some false) else (rialtoref08_Rows.l0 k1 l0 ((rd_T33 l0 x5_1).f0) (wrap64 (x5_1 + 1)))) = some r := by rw [if_pos rfl] at H; exact H
            clear H
            have H := H1
            clear H1
            by_cases c7 : ((rd_T33 l0 x5_1).f0) < x1_1
            focus
              rw [if_pos c7] at H
              have c7b0 : decide (((rd_T33 l0 x5_1).f0) < x1_1) = true := decide_eq_true c7
              clear c7
              obtain rfl := Option.some.inj H
            rotate_left 1
            focus
              rw [if_neg c7] at H
              have c7b0 : decide (((rd_T33 l0 x5_1).f0) < x1_1) = false := decide_eq_false c7
              clear c7
              have H' := Aside0.mk H
              clear H
            rotate_left 1
          rotate_left 2
          focus
            replace c6 := Bool.eq_false_iff.mpr c6
            subst c6
            have H1 : (some false) = some r := by rw [if_neg (show ¬ (false = true) by decide)] at H; exact H
            clear H
            have H := H1
            clear H1
            obtain rfl := Option.some.inj H
          rotate_left 1
        rotate_left 3
        focus
          rw [if_neg c4] at H
        rotate_left 1
      rotate_left 4
      focus
        rw [if_neg c3] at H
        have c3b0 : decide (x5_1 < (l0.length : Int)) = false := decide_eq_false c3
        clear c3
        obtain rfl := Option.some.inj H
      rotate_left 1
      iterate 3
        focus
          have p323 : 0 ≤ (x5_1 : Int) := of_decide_eq_true (by first | (with_reducible assumption) | assumption)
          have q323 : x5_1 < (l0.length : Int) := of_decide_eq_true (by first | (with_reducible assumption) | assumption)
          obtain ⟨ad323, e323, hx323_0, hx323_1, hx323_2⟩ := at_T33 HR0.out x5_1 p323 q323
          cases e323
          replace hx323_0 := (HB.out.cell (World.block_lt_of_cell? w _ hx323_0)).trans hx323_0
          replace hx323_1 := (HB.out.cell (World.block_lt_of_cell? w _ hx323_1)).trans hx323_1
          replace hx323_2 := (HB.out.cell (World.block_lt_of_cell? w _ hx323_2)).trans hx323_2
          replace p323 := eq_true p323
          replace q323 := eq_true q323
          go_wp2_with (first | ((with_reducible refine gate_callee (f := 52) rfl ?_); refine goesL_ (some 16) rfl rfl Try.func52 (by kernel_rfl) rfl #[.agg #[.int .i64 ((rd_T33 l0 x5_1).f0), .int .i64 ((rd_T33 l0 x5_1).f1), .string ((rd_T33 l0 x5_1).f2)]] rfl (by (try simp only [List.map_toArray, List.map_cons, List.map_nil]); first | done | rfl | (simp only [List.length_drop, List.length_take]; rfl)) ?_; (with_reducible refine (rialtoref08_Entry.calls ((rd_T33 l0 x5_1).f0) ((rd_T33 l0 x5_1).f1) ((rd_T33 l0 x5_1).f2) true _ A5.out).mono ?_); rintro e wx16i0 ⟨rfl, hb⟩; refine ⟨_, rfl, ?_⟩; have n0_ := Aside0.mk (below_step (by repeat (first | (with_reducible first | exact HB.out | apply below_alloc | apply pw_below_drewN | apply below_drew1) | exact HB.out)) hb); clear HB; have HB := n0_; clear n0_; (try clear hb); (try clear hb2); (try clear hk); (try clear hi); have p325 : 0 ≤ (x5_1 : Int) := of_decide_eq_true (by first | (with_reducible assumption) | assumption); have q325 : x5_1 < (l0.length : Int) := of_decide_eq_true (by first | (with_reducible assumption) | assumption); obtain ⟨ad325, e325, hx325_0, hx325_1, hx325_2⟩ := at_T33 HR0.out x5_1 p325 q325; obtain rfl : ad323 = ad325 := (by injection e325); replace hx325_0 := (HB.out.cell (World.block_lt_of_cell? w _ hx325_0)).trans hx325_0; replace hx325_1 := (HB.out.cell (World.block_lt_of_cell? w _ hx325_1)).trans hx325_1; replace hx325_2 := (HB.out.cell (World.block_lt_of_cell? w _ hx325_2)).trans hx325_2; replace p325 := eq_true p325; replace q325 := eq_true q325) | ((with_reducible refine gate_callee (f := 52) rfl ?_); refine goesL_ (some 16) rfl rfl Try.func52 (by kernel_rfl) rfl #[.agg #[.int .i64 ((rd_T33 l0 x5_1).f0), .int .i64 ((rd_T33 l0 x5_1).f1), .string ((rd_T33 l0 x5_1).f2)]] rfl (by (try simp only [List.map_toArray, List.map_cons, List.map_nil]); first | done | rfl | (simp only [List.length_drop, List.length_take]; rfl)) ?_; (with_reducible refine (rialtoref08_Entry.calls ((rd_T33 l0 x5_1).f0) ((rd_T33 l0 x5_1).f1) ((rd_T33 l0 x5_1).f2) true _ A5.out).mono ?_); rintro e wx16i0 ⟨rfl, hb⟩; refine ⟨_, rfl, ?_⟩; have n0_ := Aside0.mk (below_step (by repeat (first | (with_reducible first | exact HB.out | apply below_alloc | apply pw_below_drewN | apply below_drew1) | exact HB.out)) hb); clear HB; have HB := n0_; clear n0_; (try clear hb); (try clear hb2); (try clear hk); (try clear hi); have p325 : 0 ≤ (x5_1 : Int) := of_decide_eq_true (by first | (with_reducible assumption) | assumption); have q325 : x5_1 < (l0.length : Int) := of_decide_eq_true (by first | (with_reducible assumption) | assumption); obtain ⟨ad325, e325, hx325_0, hx325_1, hx325_2⟩ := at_T33 HR0.out x5_1 p325 q325; obtain rfl : ad323 = ad325 := (by injection e325); replace hx325_0 := (HB.out.cell (World.block_lt_of_cell? w _ hx325_0)).trans hx325_0; replace hx325_1 := (HB.out.cell (World.block_lt_of_cell? w _ hx325_1)).trans hx325_1; replace hx325_2 := (HB.out.cell (World.block_lt_of_cell? w _ hx325_2)).trans hx325_2; replace p325 := eq_true p325; replace q325 := eq_true q325; have p326 : 0 ≤ (x5_1 : Int) := of_decide_eq_true (by first | (with_reducible assumption) | assumption); have q326 : x5_1 < (l0.length : Int) := of_decide_eq_true (by first | (with_reducible assumption) | assumption); obtain ⟨ad326, e326, hx326_0, hx326_1, hx326_2⟩ := at_T33 HR0.out x5_1 p326 q326; obtain rfl : ad323 = ad326 := (by injection e326); replace hx326_0 := (HB.out.cell (World.block_lt_of_cell? w _ hx326_0)).trans hx326_0; replace hx326_1 := (HB.out.cell (World.block_lt_of_cell? w _ hx326_1)).trans hx326_1; replace hx326_2 := (HB.out.cell (World.block_lt_of_cell? w _ hx326_2)).trans hx326_2; replace p326 := eq_true p326; replace q326 := eq_true q326) | ((with_reducible refine gate_callee (f := 52) rfl ?_); refine goesL_ (some 16) rfl rfl Try.func52 (by kernel_rfl) rfl #[.agg #[.int .i64 ((rd_T33 l0 x5_1).f0), .int .i64 ((rd_T33 l0 x5_1).f1), .string ((rd_T33 l0 x5_1).f2)]] rfl (by (try simp only [List.map_toArray, List.map_cons, List.map_nil]); first | done | rfl | (simp only [List.length_drop, List.length_take]; rfl)) ?_; (with_reducible refine (rialtoref08_Entry.calls ((rd_T33 l0 x5_1).f0) ((rd_T33 l0 x5_1).f1) ((rd_T33 l0 x5_1).f2) false _ A5.out).mono ?_); rintro e wx16i0 ⟨rfl, hb⟩; refine ⟨_, rfl, ?_⟩; have n0_ := Aside0.mk (below_step (by repeat (first | (with_reducible first | exact HB.out | apply below_alloc | apply pw_below_drewN | apply below_drew1) | exact HB.out)) hb); clear HB; have HB := n0_; clear n0_; (try clear hb); (try clear hb2); (try clear hk); (try clear hi)))
        rotate_left
      focus
        exact absurd H (by simp)
      focus
        go_wp2
        go_ret
        exact ⟨by first | rfl | (simp [errW_none, errW_some] <;> rfl) | (simp [*, errW_none, errW_some] <;> rfl), by repeat (first | (with_reducible first | exact HB.out | apply below_alloc | apply pw_below_drewN | apply below_drew1) | exact HB.out)⟩
      focus
        go_ret
        exact ⟨by first | rfl | (simp [errW_none, errW_some] <;> rfl) | (simp [*, errW_none, errW_some] <;> rfl), by repeat (first | (with_reducible first | exact HB.out | apply below_alloc | apply pw_below_drewN | apply below_drew1) | exact HB.out)⟩
      focus
        go_roundg k1
        case measure => have := HK1.out; omega
        case rel => exact ⟨((rd_T33 l0 x5_1).f0), (wrap64 (x5_1 + 1)), (by first | rfl | (simp; done) | (simp [*]; done)), (by first | rfl | (simp; done) | (simp [*]; done)), H', ⟨by have := HK1.out; omega⟩, ⟨by repeat (first | (with_reducible first | exact HB.out | apply below_alloc | apply pw_below_drewN | apply below_drew1) | exact HB.out)⟩⟩
      focus
        go_ret
        exact ⟨by first | rfl | (simp [errW_none, errW_some] <;> rfl) | (simp [*, errW_none, errW_some] <;> rfl), by repeat (first | (with_reducible first | exact HB.out | apply below_alloc | apply pw_below_drewN | apply below_drew1) | exact HB.out)⟩

end Go.Proofs.Ytiebeiloooblpaa.E
end
section
-- written by myprint.py, a program of this session over the kit's print.py
namespace Go.Proofs.Ytiebeiloooblpaa.E
open Go.RowKit Go.Proofs.YtiebeiloooblpaaW.PrintWords Go.Proofs.YtiebeiloooblpaaW.PrintLast Go.Proofs.YtiebeiloooblpaaW.PrintMore
attribute [local go_sem] max2_int min2_int max_two min_two max_three min_three max_four min_four   -- for this text's walks alone
set_option linter.unusedVariables false
set_option linter.unusedSimpArgs false

/-! ### rialtoref08_end: function 47 -/
def rialtoref08_end.f (a0_0 : Int) (a0_1 : Int) (l0_2 : List (S33)) (a0_3 : Int) : Option (Int) := some (wrap64 (a0_0 + (l0_2.length : Int)))
set_option maxHeartbeats 8000000 in
set_option maxRecDepth 100000 in
theorem rialtoref08_end.calls (a0_0 : Int) (a0_1 : Int) (A0_2 : Option Addr) (c0_2 : Nat) (l0_2 : List (S33)) (a0_3 : Int) (r : Int) (w : World) (hr0_2 : Kd.C k33 w A0_2 l0_2.length l0_2) (hc0_2 : l0_2.length ≤ c0_2) (h : rialtoref08_end.f a0_0 a0_1 l0_2 a0_3 = some r) :
    Calls Try.prog 47 #[.agg #[.int .i64 a0_0, .int .i64 a0_1, .slice A0_2 l0_2.length c0_2, .int .i64 a0_3]] w fun e w' => e = .returned (.int .i64 r) ∧ Below w.heap.size w w' := by
  have hu26 := Try.underlying26
  have HR0_2 := Aside0.mk hr0_2
  have HC0_2 := Aside0.mk hc0_2
  clear hr0_2 hc0_2
  have HB := Aside0.mk (Below.refl w.heap.size w)
  have H : (some (wrap64 (a0_0 + (l0_2.length : Int)))) = some r := h
  clear h
  obtain rfl := Option.some.inj H
  go_enter Try.func47, Try.ntmps47
  go_wp2_with (first | ((with_reducible refine gate_dst (N := 1) rfl ?_); refine box_event ?hg (N := 1) ?hd (cs := #[.int .i64 a0_0, .int .i64 a0_1, .slice A0_2 l0_2.length c0_2, .int .i64 a0_3]) (t := 26) ?hr ?_; (case hd => rfl); (case hg => rfl); (case hr => first | (go_simp; done) | (go_simp; rfl)); intro gb327 hg w2 hbox hb; have n0_ := Aside0.mk (below_step (by repeat (first | (with_reducible first | exact HB.out | apply below_alloc | apply pw_below_drewN | apply below_drew1) | exact HB.out)) hb); have n1_ := Aside0.mk (hbox); have n2_ := Aside0.mk ((by rw [hg]; exact (below_size (by repeat (first | (with_reducible first | exact HB.out | apply below_alloc | apply pw_below_drewN | apply below_drew1) | exact HB.out))) : w.heap.size ≤ gb327)); have n3_ := Aside0.mk ((by rw [hg]; exact (below_size (by repeat (first | (with_reducible first | exact HB.out | apply below_alloc | apply pw_below_drewN | apply below_drew1) | exact HB.out))) : w.heap.size ≤ gb327)); clear HB; have HB := n0_; have BK327 := n1_; have GW327 := n2_; have GE327 := n3_; clear n0_ n1_ n2_ n3_; clear hb hbox hg; have hcz3_0 : w2.cell? ⟨gb327, 0, none⟩ = some (.int .i64 a0_0) := (blk_cell BK327.out 0).trans rfl; have hcz3_1 : w2.cell? ⟨gb327, 1, none⟩ = some (.int .i64 a0_1) := (blk_cell BK327.out 1).trans rfl; have hcz3_2 : w2.cell? ⟨gb327, 2, none⟩ = some (.slice A0_2 l0_2.length c0_2) := (blk_cell BK327.out 2).trans rfl; have hcz3_3 : w2.cell? ⟨gb327, 3, none⟩ = some (.int .i64 a0_3) := (blk_cell BK327.out 3).trans rfl; have hfz3_0 := blk_frozen BK327.out 0; have hfz3_1 := blk_frozen BK327.out 1; have hfz3_2 := blk_frozen BK327.out 2; have hfz3_3 := blk_frozen BK327.out 3))
  go_ret
  exact ⟨by first | rfl | (simp [errW_none, errW_some] <;> rfl) | (simp [*, errW_none, errW_some] <;> rfl), by repeat (first | (with_reducible first | exact HB.out | apply below_alloc | apply pw_below_drewN | apply below_drew1 | refine below_set ?_ GE327.out) | exact HB.out)⟩

end Go.Proofs.Ytiebeiloooblpaa.E
end
section
-- written by myprint.py, a program of this session over the kit's print.py
namespace Go.Proofs.Ytiebeiloooblpaa.E
open Go.Proofs.YtiebeiloooblpaaST
open Go.RowKit Go.Proofs.YtiebeiloooblpaaW.PrintWords Go.Proofs.YtiebeiloooblpaaW.PrintLast Go.Proofs.YtiebeiloooblpaaW.PrintMore
attribute [local go_sem] max2_int min2_int max_two min_two max_three min_three max_four min_four   -- for this text's walks alone
set_option linter.unusedVariables false
set_option linter.unusedSimpArgs false

/-! ### rialtoref08_Check: function 31 -/
def rialtoref08_Check.f (k : Nat) (a0_0 : Int) (a0_1 : Int) (l0_2 : List (S33)) (a0_3 : Int) : Option (Int) := (rialtoref07_Mark.f a0_0 a0_1).bind fun t329 => (if t329 = true then (if (l0_2.length : Int) > 400 then (some 80) else ((rialtoref08_Rows.f k l0_2 a0_1).bind fun t330 => (if t330 = true then ((rialtoref08_end.f a0_0 a0_1 l0_2 a0_3).bind fun t331 => (if t331 > 1000000 then (some 80) else ((rialtoref08_end.f a0_0 a0_1 l0_2 a0_3).bind fun t332 => ((rialtoref08_within.f a0_3 a0_0 t332).bind fun t333 => (if t333 = true then (some 0) else (some 80)))))) else (some 80)))) else (some 80))
def rialtoref08_Check.T1 : Bool × List (List Nat × List Nat) := (true, [([], []), ([0], [0]), ([1], [1]), ([2], [2]), ([3, 2], [3]), ([4], [4]), ([5, 4], [4, 5]), ([6, 4], [4, 6]), ([7, 4], [4, 7]), ([4, 8], [4, 8]), ([9, 4], [9]), ([10], [10]), ([11, 10], [10, 11]), ([10], [10]), ([13, 10], [10, 13]), ([14, 10], [10, 14]), ([12, 15, 10, 10], [10, 12, 15]), ([16, 10], [10, 16]), ([10, 17], [10, 17]), ([18, 16], [18]), ([19], [19]), ([20, 19, 19], [19, 20]), ([21, 19], [19, 21]), ([19, 22], [19, 22]), ([23, 21], [23]), ([24], [24]), ([25, 24], [24, 25]), ([24], [24]), ([27, 24], [24, 27]), ([28, 24], [24, 28]), ([24], [24]), ([30, 24, 24], [24, 30]), ([26, 29, 31, 31, 24], [24, 26, 29, 31]), ([32, 24], [24, 32]), ([24, 33], [24, 33])])
def rialtoref08_Check.B1 : List Nat := [0, 1, 3, 7, 15, 31, 63, 127, 255, 511, 1023, 2047, 4095, 2047, 10239, 26623, 65535, 131071, 262143, 524287, 1048575, 2097151, 4194303, 8388607, 16777215, 33554431, 67108863, 33554431, 167772159, 436207615, 33554431, 1107296255, 4294967295, 8589934591, 17179869183]
theorem rialtoref08_Check.tab1 : rtab .any (opsOf Try.f31 1) = rialtoref08_Check.T1 := by kernel_rfl
theorem rialtoref08_Check.bits1 : waitsOk rialtoref08_Check.T1.2 rialtoref08_Check.B1 = true := by kernel_rfl
set_option maxHeartbeats 8000000 in
set_option maxRecDepth 100000 in
theorem rialtoref08_Check.calls (k : Nat) (a0_0 : Int) (a0_1 : Int) (A0_2 : Option Addr) (c0_2 : Nat) (l0_2 : List (S33)) (a0_3 : Int) (r : Int) (w : World) (hr0_2 : Kd.C k33 w A0_2 l0_2.length l0_2) (hc0_2 : l0_2.length ≤ c0_2) (h : rialtoref08_Check.f k a0_0 a0_1 l0_2 a0_3 = some r) :
    Calls Try.prog 31 #[.agg #[.int .i64 a0_0, .int .i64 a0_1, .slice A0_2 l0_2.length c0_2, .int .i64 a0_3]] w fun e w' => e = .returned (.int .i64 r) ∧ Below w.heap.size w w' := by
  have hu26 := Try.underlying26
  have hu23 := Try.underlying23
  have HR0_2 := Aside0.mk hr0_2
  have HC0_2 := Aside0.mk hc0_2
  clear hr0_2 hc0_2
  have HB := Aside0.mk (Below.refl w.heap.size w)
  have H : ((rialtoref07_Mark.f a0_0 a0_1).bind fun t329 => (if t329 = true then (if (l0_2.length : Int) > 400 then (some 80) else ((rialtoref08_Rows.f k l0_2 a0_1).bind fun t330 => (if t330 = true then ((rialtoref08_end.f a0_0 a0_1 l0_2 a0_3).bind fun t331 => (if t331 > 1000000 then (some 80) else ((rialtoref08_end.f a0_0 a0_1 l0_2 a0_3).bind fun t332 => ((rialtoref08_within.f a0_3 a0_0 t332).bind fun t333 => (if t333 = true then (some 0) else (some 80)))))) else (some 80)))) else (some 80))) = some r := h
  clear h
  replace H := Option.bind_eq_some_iff.mp H
  obtain ⟨t329, A20, H⟩ := H
  replace H : (if t329 = true then (if (l0_2.length : Int) > 400 then (some 80) else ((rialtoref08_Rows.f k l0_2 a0_1).bind fun t330 => (if t330 = true then ((rialtoref08_end.f a0_0 a0_1 l0_2 a0_3).bind fun t331 => (if t331 > 1000000 then (some 80) else ((rialtoref08_end.f a0_0 a0_1 l0_2 a0_3).bind fun t332 => ((rialtoref08_within.f a0_3 a0_0 t332).bind fun t333 => (if t333 = true then (some 0) else (some 80)))))) else (some 80)))) else (some 80)) = some r := H
  have A2 := Aside0.mk A20
  clear A20
  by_cases c3 : t329 = true
  focus
    subst c3
    have H1 : (if (l0_2.length : Int) > 400 then (some 80) else ((rialtoref08_Rows.f k l0_2 a0_1).bind fun t330 => (if t330 = true then ((rialtoref08_end.f a0_0 a0_1 l0_2 a0_3).bind fun t331 => (if t331 > 1000000 then (some 80) else ((rialtoref08_end.f a0_0 a0_1 l0_2 a0_3).bind fun t332 => ((rialtoref08_within.f a0_3 a0_0 t332).bind fun t333 => (if t333 = true then (some 0) else (some 80)))))) else (some 80)))) = some r := by rw [if_pos rfl] at H; exact H
    clear H
    have H := H1
    clear H1
    by_cases c4 : (l0_2.length : Int) > 400
    focus
      rw [if_pos c4] at H
      have c4b0 : decide (400 < (l0_2.length : Int)) = true := decide_eq_true c4
      have c4b1 : decide (400 < l0_2.length) = true := decide_eq_true (by omega)
      clear c4
      obtain rfl := Option.some.inj H
    rotate_left 1
    focus
      rw [if_neg c4] at H
      have c4b0 : decide (400 < (l0_2.length : Int)) = false := decide_eq_false c4
      have c4b1 : decide (400 < l0_2.length) = false := decide_eq_false (by omega)
      clear c4
      replace H := Option.bind_eq_some_iff.mp H
      obtain ⟨t330, A80, H⟩ := H
      replace H : (if t330 = true then ((rialtoref08_end.f a0_0 a0_1 l0_2 a0_3).bind fun t331 => (if t331 > 1000000 then (some 80) else ((rialtoref08_end.f a0_0 a0_1 l0_2 a0_3).bind fun t332 => ((rialtoref08_within.f a0_3 a0_0 t332).bind fun t333 => (if t333 = true then (some 0) else (some 80)))))) else (some 80)) = some r := H
      have A8 := Aside0.mk A80
      clear A80
      by_cases c9 : t330 = true
      focus
        subst c9
        have H1 : ((rialtoref08_end.f a0_0 a0_1 l0_2 a0_3).bind fun t331 => (if t331 > 1000000 then (some 80) else ((rialtoref08_end.f a0_0 a0_1 l0_2 a0_3).bind fun t332 => ((rialtoref08_within.f a0_3 a0_0 t332).bind fun t333 => (if t333 = true then (some 0) else (some 80)))))) = some r := by rw [if_pos rfl] at H; exact H
        clear H
        have H := H1
        clear H1
        replace H := Option.bind_eq_some_iff.mp H
        obtain ⟨t331, A100, H⟩ := H
        replace H : (if t331 > 1000000 then (some 80) else ((rialtoref08_end.f a0_0 a0_1 l0_2 a0_3).bind fun t332 => ((rialtoref08_within.f a0_3 a0_0 t332).bind fun t333 => (if t333 = true then (some 0) else (some 80))))) = some r := H
        have A10 := Aside0.mk A100
        clear A100
        by_cases c11 : t331 > 1000000
        focus
          rw [if_pos c11] at H
          have c11b0 : decide (1000000 < t331) = true := decide_eq_true c11
          clear c11
          obtain rfl := Option.some.inj H
        rotate_left 1
        focus
          rw [if_neg c11] at H
          have c11b0 : decide (1000000 < t331) = false := decide_eq_false c11
          clear c11
          replace H := Option.bind_eq_some_iff.mp H
          obtain ⟨t332, A170, H⟩ := H
          replace H : ((rialtoref08_within.f a0_3 a0_0 t332).bind fun t333 => (if t333 = true then (some 0) else (some 80))) = some r := H
          have A17 := Aside0.mk A170
          clear A170
          replace H := Option.bind_eq_some_iff.mp H
          obtain ⟨t333, A180, H⟩ := H
          replace H : (if t333 = true then (some 0) else (some 80)) = some r := H
          have A18 := Aside0.mk A180
          clear A180
          by_cases c19 : t333 = true
          focus
            subst c19
            have H1 : (some 0) = some r := by rw [if_pos rfl] at H; exact H
            clear H
            have H := H1
            clear H1
            obtain rfl := Option.some.inj H
          rotate_left 1
          focus
            replace c19 := Bool.eq_false_iff.mpr c19
            subst c19
            have H1 : (some 80) = some r := by rw [if_neg (show ¬ (false = true) by decide)] at H; exact H
            clear H
            have H := H1
            clear H1
            obtain rfl := Option.some.inj H
          rotate_left 1
        rotate_left 2
      rotate_left 3
      focus
        replace c9 := Bool.eq_false_iff.mpr c9
        subst c9
        have H1 : (some 80) = some r := by rw [if_neg (show ¬ (false = true) by decide)] at H; exact H
        clear H
        have H := H1
        clear H1
        obtain rfl := Option.some.inj H
      rotate_left 1
    rotate_left 4
  rotate_left 5
  focus
    replace c3 := Bool.eq_false_iff.mpr c3
    subst c3
    have H1 : (some 80) = some r := by rw [if_neg (show ¬ (false = true) by decide)] at H; exact H
    clear H
    have H := H1
    clear H1
    obtain rfl := Option.some.inj H
  rotate_left 1
  all_goals
    go_enter Try.func31, Try.ntmps31
    try go_wp2_with (first | ((with_reducible refine gate_dst (N := 1) rfl ?_); (try (refine gate_guard (by rfl) ?_; dsimp only)); refine box_event ?hg (N := 1) ?hd (cs := #[.int .i64 a0_0, .int .i64 a0_1, .slice A0_2 l0_2.length c0_2, .int .i64 a0_3]) (t := 26) ?hr ?_; (case hd => rfl); (case hg => rfl); (case hr => first | (go_simp; done) | (go_simp; rfl)); intro gb328 hg wx1i0 hbox hb; have n0_ := Aside0.mk (below_step (by repeat (first | (with_reducible first | exact HB.out | apply below_alloc | apply pw_below_drewN | apply below_drew1) | exact HB.out)) hb); have n1_ := Aside0.mk (hbox); have n2_ := Aside0.mk ((by rw [hg]; exact (below_size (by repeat (first | (with_reducible first | exact HB.out | apply below_alloc | apply pw_below_drewN | apply below_drew1) | exact HB.out))) : w.heap.size ≤ gb328)); have n3_ := Aside0.mk ((by rw [hg]; exact (below_size (by repeat (first | (with_reducible first | exact HB.out | apply below_alloc | apply pw_below_drewN | apply below_drew1) | exact HB.out))) : w.heap.size ≤ gb328)); clear HB; have HB := n0_; have BK328 := n1_; have GW328 := n2_; have GE328 := n3_; clear n0_ n1_ n2_ n3_; clear hb hbox hg))
    have n0_ := Aside0.mk (blk_drew BK328.out)
    have n1_ := Aside0.mk (below_drew1 HB.out)
    clear BK328
    clear HB
    have BK328 := n0_
    have HB := n1_
    clear n0_ n1_
    refine start_ (n := 35) (S := fun w' => w'.cell? ⟨gb328, 0, none⟩ = some (.int .i64 a0_0) ∧ w'.cell? ⟨gb328, 1, none⟩ = some (.int .i64 a0_1) ∧ w'.cell? ⟨gb328, 2, none⟩ = some (.slice A0_2 l0_2.length c0_2) ∧ w'.cell? ⟨gb328, 3, none⟩ = some (.int .i64 a0_3)) (ds := []) #[false, false, false, false, false, false, false, false, false, false, false, false, false, false, false, false, false, false, false, false, false, false, false, false, false, false, false, false, false, false, false, false, false, false, false] (by kernel_rfl) rfl rfl ⟨(blk_cell BK328.out 0).trans rfl, (blk_cell BK328.out 1).trans rfl, (blk_cell BK328.out 2).trans rfl, (blk_cell BK328.out 3).trans rfl⟩ (fun hHeld => ?_); refine with_tabW rialtoref08_Check.tab1 rialtoref08_Check.bits1 (fun HT_ HW_ => ?_)
    generalize wx1i0.drew = wyi0 at BK328 HB hHeld ⊢
    refine stepP HT_ 0 (some 3) ?_
    refine stepT4 HT_ HW_ 1 (some 4) hHeld ?_
    refine one_ (i := 2) (N := some 5) #[true, true, true, false, false, false, false, false, false, false, false, false, false, false, false, false, false, false, false, false, false, false, false, false, false, false, false, false, false, false, false, false, false, false, false] rfl rfl (one_of HT_.out (by kernel_rfl)) (by decide) (fun K hK => ?_)
    refine goes_ Try.func40 (by kernel_rfl) rfl #[.agg #[.int .i64 a0_0, .int .i64 a0_1]] (by rfl) rfl rfl (by (try simp only [List.map_toArray, List.map_cons, List.map_nil]); first | done | rfl | (simp only [List.length_drop, List.length_take]; rfl)) ?_
    with_reducible refine (rialtoref07_Mark.calls a0_0 a0_1 _ _ A2.out).mono ?_
    rintro e wyi1 ⟨rfl, hb⟩
    refine ⟨_, rfl, ?_⟩
    have n0_ := Aside0.mk (blk_below (g := gb328) (o := .cells #[.int .i64 a0_0, .int .i64 a0_1, .slice A0_2 l0_2.length c0_2, .int .i64 a0_3] 26 (0, 0)) (by (with_reducible repeat (first | refine blk_drewN ?_ _ | refine blk_drew ?_ | refine blk_alloc ?_ _)); exact BK328.out) hb)
    have n1_ := Aside0.mk (below_step (by repeat (first | (with_reducible first | exact HB.out | apply below_alloc | apply pw_below_drewN | apply below_drew1 | refine below_set ?_ GE328.out) | exact HB.out)) hb)
    clear BK328
    clear HB
    have BK328 := n0_
    have HB := n1_
    clear n0_ n1_
    (try clear hb)
    (try clear hb2)
    (try clear hk)
    (try clear hi)
    refine hK.out _ _ ⟨(blk_cell BK328.out 0).trans rfl, (blk_cell BK328.out 1).trans rfl, (blk_cell BK328.out 2).trans rfl, (blk_cell BK328.out 3).trans rfl⟩ (fun hHeld => ?_)
    clear hK K
    refine norm_ (a' := ?_) ?_ ?_
    rotate_left
    · show Act.put _ (some 5) _ = _
      simp only [Act.put, List.setIfInBounds_toArray, List.set_cons_zero, List.set_cons_succ, i64_w, i32_w]
      rfl
    refine stepP HT_ 3 (some 6) ?_
    refine stepP HT_ 4 (some 7) ?_
  iterate 5
    focus
      refine stepP HT_ 5 (some 8) ?_
      refine stepT4 HT_ HW_ 6 (some 9) hHeld ?_
      refine stepP HT_ 7 (some 10) ?_
      refine stepP HT_ 8 (some 11) ?_
      refine stepP HT_ 9 (some 12) ?_
      refine stepP HT_ 10 (some 13) ?_
    rotate_left
  focus
    refine stepU HT_ 5 (some 8) ?_
    refine stepU HT_ 6 (some 9) ?_
    refine stepU HT_ 7 (some 10) ?_
    refine stepU HT_ 8 (some 11) ?_
    refine stepP HT_ 9 (some 12) ?_
    refine stepP HT_ 10 (some 13) ?_
    refine stepU HT_ 11 (some 14) ?_
    refine stepU HT_ 12 (some 15) ?_
    refine stepU HT_ 13 (some 16) ?_
    refine stepU HT_ 14 (some 17) ?_
    refine stepU HT_ 15 (some 18) ?_
    refine stepU HT_ 16 (some 19) ?_
    refine stepU HT_ 17 (some 20) ?_
    refine stepP HT_ 18 (some 21) ?_
    refine stepP HT_ 19 (some 22) ?_
    refine stepU HT_ 20 (some 23) ?_
    refine stepU HT_ 21 (some 24) ?_
    refine stepU HT_ 22 (some 25) ?_
    refine stepP HT_ 23 (some 26) ?_
    refine stepP HT_ 24 (some 27) ?_
    refine stepU HT_ 25 (some 28) ?_
    refine stepU HT_ 26 (some 29) ?_
    refine stepU HT_ 27 (some 30) ?_
    refine stepU HT_ 28 (some 31) ?_
    refine stepU HT_ 29 (some 32) ?_
    refine stepU HT_ 30 (some 33) ?_
    refine stepU HT_ 31 (some 34) ?_
    refine stepU HT_ 32 (some 35) ?_
    refine stepU HT_ 33 (some 36) ?_
    refine stepP HT_ 34 (some 37) ?_
    refine done_ (done_of HT_.out (by kernel_rfl)) ?_
    try go_wp2
    go_ret
    exact ⟨by first | rfl | (simp [errW_none, errW_some] <;> rfl) | (simp [*, errW_none, errW_some] <;> rfl), by repeat (first | (with_reducible first | exact HB.out | apply below_alloc | apply pw_below_drewN | apply below_drew1 | refine below_set ?_ GE328.out) | exact HB.out)⟩
  focus
    refine stepU HT_ 11 (some 14) ?_
    refine stepU HT_ 12 (some 15) ?_
    refine stepU HT_ 13 (some 16) ?_
    refine stepU HT_ 14 (some 17) ?_
    refine stepU HT_ 15 (some 18) ?_
    refine stepU HT_ 16 (some 19) ?_
    refine stepU HT_ 17 (some 20) ?_
    refine stepP HT_ 18 (some 21) ?_
    refine stepP HT_ 19 (some 22) ?_
    refine stepU HT_ 20 (some 23) ?_
    refine stepU HT_ 21 (some 24) ?_
    refine stepU HT_ 22 (some 25) ?_
    refine stepP HT_ 23 (some 26) ?_
    refine stepP HT_ 24 (some 27) ?_
    refine stepU HT_ 25 (some 28) ?_
    refine stepU HT_ 26 (some 29) ?_
    refine stepU HT_ 27 (some 30) ?_
    refine stepU HT_ 28 (some 31) ?_
    refine stepU HT_ 29 (some 32) ?_
    refine stepU HT_ 30 (some 33) ?_
    refine stepU HT_ 31 (some 34) ?_
    refine stepU HT_ 32 (some 35) ?_
    refine stepU HT_ 33 (some 36) ?_
    refine stepP HT_ 34 (some 37) ?_
    refine done_ (done_of HT_.out (by kernel_rfl)) ?_
    try go_wp2
    go_ret
    exact ⟨by first | rfl | (simp [errW_none, errW_some] <;> rfl) | (simp [*, errW_none, errW_some] <;> rfl), by repeat (first | (with_reducible first | exact HB.out | apply below_alloc | apply pw_below_drewN | apply below_drew1 | refine below_set ?_ GE328.out) | exact HB.out)⟩
  iterate 4
    focus
      refine stepP HT_ 11 (some 14) ?_
      refine stepP HT_ 13 (some 16) ?_
      refine stepP HT_ 14 (some 17) ?_
      refine stepT4 HT_ HW_ 12 (some 15) hHeld ?_
      refine stepT4 HT_ HW_ 15 (some 18) hHeld ?_
      refine one_ (i := 16) (N := some 19) #[true, true, true, true, true, true, true, true, true, true, true, true, true, true, true, true, true, false, false, false, false, false, false, false, false, false, false, false, false, false, false, false, false, false, false] rfl rfl (one_of HT_.out (by kernel_rfl)) (by decide) (fun K hK => ?_)
      refine goes_ Try.func46 (by kernel_rfl) rfl #[.slice A0_2 l0_2.length c0_2, .int .i64 a0_1] (by rfl) rfl rfl (by (try simp only [List.map_toArray, List.map_cons, List.map_nil]); first | done | rfl | (simp only [List.length_drop, List.length_take]; rfl)) ?_
      with_reducible refine (rialtoref08_Rows.calls k _ _ l0_2 a0_1 _ _ ?side1 ?side2 A8.out).mono ?_
      (case side1 => repeat (first | exact (Kd.C_below HR0_2.out HB.out) | (with_reducible refine Kd.C_alloc ?_ _) | (with_reducible refine Kd.C_drewN ?_ _) | (with_reducible refine Kd.C_drew ?_)))
      (case side2 => exact HC0_2.out)
      rintro e wyi2 ⟨rfl, hb⟩
      refine ⟨_, rfl, ?_⟩
      have n0_ := Aside0.mk (blk_below (g := gb328) (o := .cells #[.int .i64 a0_0, .int .i64 a0_1, .slice A0_2 l0_2.length c0_2, .int .i64 a0_3] 26 (0, 0)) (by (with_reducible repeat (first | refine blk_drewN ?_ _ | refine blk_drew ?_ | refine blk_alloc ?_ _)); exact BK328.out) hb)
      have n1_ := Aside0.mk (below_step (by repeat (first | (with_reducible first | exact HB.out | apply below_alloc | apply pw_below_drewN | apply below_drew1 | refine below_set ?_ GE328.out) | exact HB.out)) hb)
      clear BK328
      clear HB
      have BK328 := n0_
      have HB := n1_
      clear n0_ n1_
      (try clear hb)
      (try clear hb2)
      (try clear hk)
      (try clear hi)
      refine hK.out _ _ ⟨(blk_cell BK328.out 0).trans rfl, (blk_cell BK328.out 1).trans rfl, (blk_cell BK328.out 2).trans rfl, (blk_cell BK328.out 3).trans rfl⟩ (fun hHeld => ?_)
      clear hK K
      refine norm_ (a' := ?_) ?_ ?_
      rotate_left
      · show Act.put _ (some 19) _ = _
        simp only [Act.put, List.setIfInBounds_toArray, List.set_cons_zero, List.set_cons_succ, i64_w, i32_w]
        rfl
      refine stepP HT_ 17 (some 20) ?_
      refine stepP HT_ 18 (some 21) ?_
      refine stepP HT_ 19 (some 22) ?_
    rotate_left
  iterate 3
    focus
      refine stepT4 HT_ HW_ 20 (some 23) hHeld ?_
      refine one_ (i := 21) (N := some 24) #[true, true, true, true, true, true, true, true, true, true, true, true, true, true, true, true, true, true, true, true, true, true, false, false, false, false, false, false, false, false, false, false, false, false, false] rfl rfl (one_of HT_.out (by kernel_rfl)) (by decide) (fun K hK => ?_)
      refine goes_ Try.func47 (by kernel_rfl) rfl #[.agg #[.int .i64 a0_0, .int .i64 a0_1, .slice A0_2 l0_2.length c0_2, .int .i64 a0_3]] (by rfl) rfl rfl (by (try simp only [List.map_toArray, List.map_cons, List.map_nil]); first | done | rfl | (simp only [List.length_drop, List.length_take]; rfl)) ?_
      with_reducible refine (rialtoref08_end.calls a0_0 a0_1 _ _ l0_2 a0_3 t331 _ ?side1 ?side2 A10.out).mono ?_
      (case side1 => repeat (first | exact (Kd.C_below HR0_2.out HB.out) | (with_reducible refine Kd.C_alloc ?_ _) | (with_reducible refine Kd.C_drewN ?_ _) | (with_reducible refine Kd.C_drew ?_)))
      (case side2 => exact HC0_2.out)
      rintro e wyi3 ⟨rfl, hb⟩
      refine ⟨_, rfl, ?_⟩
      have n0_ := Aside0.mk (blk_below (g := gb328) (o := .cells #[.int .i64 a0_0, .int .i64 a0_1, .slice A0_2 l0_2.length c0_2, .int .i64 a0_3] 26 (0, 0)) (by (with_reducible repeat (first | refine blk_drewN ?_ _ | refine blk_drew ?_ | refine blk_alloc ?_ _)); exact BK328.out) hb)
      have n1_ := Aside0.mk (below_step (by repeat (first | (with_reducible first | exact HB.out | apply below_alloc | apply pw_below_drewN | apply below_drew1 | refine below_set ?_ GE328.out) | exact HB.out)) hb)
      clear BK328
      clear HB
      have BK328 := n0_
      have HB := n1_
      clear n0_ n1_
      (try clear hb)
      (try clear hb2)
      (try clear hk)
      (try clear hi)
      refine hK.out _ _ ⟨(blk_cell BK328.out 0).trans rfl, (blk_cell BK328.out 1).trans rfl, (blk_cell BK328.out 2).trans rfl, (blk_cell BK328.out 3).trans rfl⟩ (fun hHeld => ?_)
      clear hK K
      refine norm_ (a' := ?_) ?_ ?_
      rotate_left
      · show Act.put _ (some 24) _ = _
        simp only [Act.put, List.setIfInBounds_toArray, List.set_cons_zero, List.set_cons_succ, i64_w, i32_w]
        rfl
      refine stepP HT_ 22 (some 25) ?_
      refine stepP HT_ 23 (some 26) ?_
      refine stepP HT_ 24 (some 27) ?_
    rotate_left
  focus
    refine stepU HT_ 20 (some 23) ?_
    refine stepU HT_ 21 (some 24) ?_
    refine stepU HT_ 22 (some 25) ?_
    refine stepP HT_ 23 (some 26) ?_
    refine stepP HT_ 24 (some 27) ?_
    refine stepU HT_ 25 (some 28) ?_
    refine stepU HT_ 26 (some 29) ?_
    refine stepU HT_ 27 (some 30) ?_
    refine stepU HT_ 28 (some 31) ?_
    refine stepU HT_ 29 (some 32) ?_
    refine stepU HT_ 30 (some 33) ?_
    refine stepU HT_ 31 (some 34) ?_
    refine stepU HT_ 32 (some 35) ?_
    refine stepU HT_ 33 (some 36) ?_
    refine stepP HT_ 34 (some 37) ?_
    refine done_ (done_of HT_.out (by kernel_rfl)) ?_
    try go_wp2
    go_ret
    exact ⟨by first | rfl | (simp [errW_none, errW_some] <;> rfl) | (simp [*, errW_none, errW_some] <;> rfl), by repeat (first | (with_reducible first | exact HB.out | apply below_alloc | apply pw_below_drewN | apply below_drew1 | refine below_set ?_ GE328.out) | exact HB.out)⟩
  focus
    refine stepU HT_ 25 (some 28) ?_
    refine stepU HT_ 26 (some 29) ?_
    refine stepU HT_ 27 (some 30) ?_
    refine stepU HT_ 28 (some 31) ?_
    refine stepU HT_ 29 (some 32) ?_
    refine stepU HT_ 30 (some 33) ?_
    refine stepU HT_ 31 (some 34) ?_
    refine stepU HT_ 32 (some 35) ?_
    refine stepU HT_ 33 (some 36) ?_
    refine stepP HT_ 34 (some 37) ?_
    refine done_ (done_of HT_.out (by kernel_rfl)) ?_
    try go_wp2
    go_ret
    exact ⟨by first | rfl | (simp [errW_none, errW_some] <;> rfl) | (simp [*, errW_none, errW_some] <;> rfl), by repeat (first | (with_reducible first | exact HB.out | apply below_alloc | apply pw_below_drewN | apply below_drew1 | refine below_set ?_ GE328.out) | exact HB.out)⟩
  iterate 2
    focus
      refine stepP HT_ 25 (some 28) ?_
      refine stepP HT_ 27 (some 30) ?_
      refine stepP HT_ 28 (some 31) ?_
      refine stepT4 HT_ HW_ 26 (some 29) hHeld ?_
      refine stepT4 HT_ HW_ 29 (some 32) hHeld ?_
      refine stepT4 HT_ HW_ 30 (some 33) hHeld ?_
      refine one_ (i := 31) (N := some 34) #[true, true, true, true, true, true, true, true, true, true, true, true, true, true, true, true, true, true, true, true, true, true, true, true, true, true, true, true, true, true, true, true, false, false, false] rfl rfl (one_of HT_.out (by kernel_rfl)) (by decide) (fun K hK => ?_)
      refine goes_ Try.func47 (by kernel_rfl) rfl #[.agg #[.int .i64 a0_0, .int .i64 a0_1, .slice A0_2 l0_2.length c0_2, .int .i64 a0_3]] (by rfl) rfl rfl (by (try simp only [List.map_toArray, List.map_cons, List.map_nil]); first | done | rfl | (simp only [List.length_drop, List.length_take]; rfl)) ?_
      with_reducible refine (rialtoref08_end.calls a0_0 a0_1 _ _ l0_2 a0_3 t332 _ ?side1 ?side2 A17.out).mono ?_
      (case side1 => repeat (first | exact (Kd.C_below HR0_2.out HB.out) | (with_reducible refine Kd.C_alloc ?_ _) | (with_reducible refine Kd.C_drewN ?_ _) | (with_reducible refine Kd.C_drew ?_)))
      (case side2 => exact HC0_2.out)
      rintro e wyi4 ⟨rfl, hb⟩
      refine ⟨_, rfl, ?_⟩
      have n0_ := Aside0.mk (blk_below (g := gb328) (o := .cells #[.int .i64 a0_0, .int .i64 a0_1, .slice A0_2 l0_2.length c0_2, .int .i64 a0_3] 26 (0, 0)) (by (with_reducible repeat (first | refine blk_drewN ?_ _ | refine blk_drew ?_ | refine blk_alloc ?_ _)); exact BK328.out) hb)
      have n1_ := Aside0.mk (below_step (by repeat (first | (with_reducible first | exact HB.out | apply below_alloc | apply pw_below_drewN | apply below_drew1 | refine below_set ?_ GE328.out) | exact HB.out)) hb)
      clear BK328
      clear HB
      have BK328 := n0_
      have HB := n1_
      clear n0_ n1_
      (try clear hb)
      (try clear hb2)
      (try clear hk)
      (try clear hi)
      refine hK.out _ _ ⟨(blk_cell BK328.out 0).trans rfl, (blk_cell BK328.out 1).trans rfl, (blk_cell BK328.out 2).trans rfl, (blk_cell BK328.out 3).trans rfl⟩ (fun hHeld => ?_)
      clear hK K
      refine norm_ (a' := ?_) ?_ ?_
      rotate_left
      · show Act.put _ (some 34) _ = _
        simp only [Act.put, List.setIfInBounds_toArray, List.set_cons_zero, List.set_cons_succ, i64_w, i32_w]
        rfl
      refine one_ (i := 32) (N := some 35) #[true, true, true, true, true, true, true, true, true, true, true, true, true, true, true, true, true, true, true, true, true, true, true, true, true, true, true, true, true, true, true, true, true, false, false] rfl rfl (one_of HT_.out (by kernel_rfl)) (by decide) (fun K hK => ?_)
      refine goes_ Try.func45 (by kernel_rfl) rfl #[.int .i64 a0_3, .int .i64 a0_0, .int .i64 t332] (by rfl) rfl rfl (by (try simp only [List.map_toArray, List.map_cons, List.map_nil]); first | done | rfl | (simp only [List.length_drop, List.length_take]; rfl)) ?_
      with_reducible refine (rialtoref08_within.calls a0_3 a0_0 t332 _ _ A18.out).mono ?_
      rintro e w' ⟨rfl, ⟨nd, rfl⟩⟩
      refine ⟨_, rfl, ?_⟩
      refine hK.out _ _ ⟨(blk_cell BK328.out 0).trans rfl, (blk_cell BK328.out 1).trans rfl, (blk_cell BK328.out 2).trans rfl, (blk_cell BK328.out 3).trans rfl⟩ (fun hHeld => ?_)
      clear hK K
      refine norm_ (a' := ?_) ?_ ?_
      rotate_left
      · show Act.put _ (some 35) _ = _
        simp only [Act.put, List.setIfInBounds_toArray, List.set_cons_zero, List.set_cons_succ, i64_w, i32_w]
        rfl
      refine stepP HT_ 33 (some 36) ?_
      refine stepP HT_ 34 (some 37) ?_
      refine done_ (done_of HT_.out (by kernel_rfl)) ?_
      try go_wp2
      go_ret
      exact ⟨by first | rfl | (simp [errW_none, errW_some] <;> rfl) | (simp [*, errW_none, errW_some] <;> rfl), by repeat (first | (with_reducible first | exact HB.out | apply below_alloc | apply pw_below_drewN | apply below_drew1 | refine below_set ?_ GE328.out) | exact HB.out)⟩

end Go.Proofs.Ytiebeiloooblpaa.E
end
section
-- written by myprint.py, a program of this session over the kit's print.py
namespace Go.Proofs.Ytiebeiloooblpaa.E
open Go.RowKit Go.Proofs.YtiebeiloooblpaaW.PrintWords Go.Proofs.YtiebeiloooblpaaW.PrintLast Go.Proofs.YtiebeiloooblpaaW.PrintMore
attribute [local go_sem] max2_int min2_int max_two min_two max_three min_three max_four min_four   -- for this text's walks alone
set_option linter.unusedVariables false
set_option linter.unusedSimpArgs false

/-! ### rialtoref08_TermAt: function 28 -/
def rialtoref08_TermAt.j0 : Nat → Int → Bool → Int → Int → List (S33) → Int → Option (Int × Bool)
  | 0, _, _, _, _, _, _ => none
  | k + 1, x1, x21, x335000, x335001, x335002, x335003 => if x21 = true then (some (0, false)) else (if x1 = x335000 then (some (x335001, true)) else (if 0 ≤ (wrap64 ((wrap64 (x1 - x335000)) - 1)) then (if (wrap64 ((wrap64 (x1 - x335000)) - 1)) < (x335002.length : Int) then (some ((rd_T33 x335002 (wrap64 ((wrap64 (x1 - x335000)) - 1))).f0, true)) else (none)) else (none)))
def rialtoref08_TermAt.f (k : Nat) (a0_0 : Int) (a0_1 : Int) (l0_2 : List (S33)) (a0_3 : Int) (a1 : Int) : Option (Int × Bool) := (rialtoref08_Check.f k a0_0 a0_1 l0_2 a0_3).bind fun t335 => (if t335 = 0 then (if a1 < a0_0 then (rialtoref08_TermAt.j0 k a1 true a0_0 a0_1 l0_2 a0_3) else ((rialtoref08_end.f a0_0 a0_1 l0_2 a0_3).bind fun t336 => (rialtoref08_TermAt.j0 k a1 (decide (a1 > t336)) a0_0 a0_1 l0_2 a0_3))) else (rialtoref08_TermAt.j0 k a1 true a0_0 a0_1 l0_2 a0_3))
set_option maxHeartbeats 8000000 in
set_option maxRecDepth 100000 in
theorem rialtoref08_TermAt.calls (k : Nat) (a0_0 : Int) (a0_1 : Int) (A0_2 : Option Addr) (c0_2 : Nat) (l0_2 : List (S33)) (a0_3 : Int) (a1 : Int) (r1 : Int) (r2 : Bool) (w : World) (hr0_2 : Kd.C k33 w A0_2 l0_2.length l0_2) (hc0_2 : l0_2.length ≤ c0_2) (h : rialtoref08_TermAt.f k a0_0 a0_1 l0_2 a0_3 a1 = some (r1, r2)) :
    Calls Try.prog 28 #[.agg #[.int .i64 a0_0, .int .i64 a0_1, .slice A0_2 l0_2.length c0_2, .int .i64 a0_3], .int .i64 a1] w fun e w' => e = .returned (.tuple #[.int .i64 r1, .bool r2]) ∧ Below w.heap.size w w' := by
  have hu26 := Try.underlying26
  have HR0_2 := Aside0.mk hr0_2
  have HC0_2 := Aside0.mk hc0_2
  clear hr0_2 hc0_2
  have HB := Aside0.mk (Below.refl w.heap.size w)
  have H : ((rialtoref08_Check.f k a0_0 a0_1 l0_2 a0_3).bind fun t335 => (if t335 = 0 then (if a1 < a0_0 then (rialtoref08_TermAt.j0 k a1 true a0_0 a0_1 l0_2 a0_3) else ((rialtoref08_end.f a0_0 a0_1 l0_2 a0_3).bind fun t336 => (rialtoref08_TermAt.j0 k a1 (decide (a1 > t336)) a0_0 a0_1 l0_2 a0_3))) else (rialtoref08_TermAt.j0 k a1 true a0_0 a0_1 l0_2 a0_3))) = some (r1, r2) := h
  clear h
  have HC3 := Aside0.mk H
  clear H
  go_enter Try.func28, Try.ntmps28
  go_upto_region 1 with (first | ((with_reducible refine gate_dst (N := 2) rfl ?_); refine box_event ?hg (N := 2) ?hd (cs := #[.int .i64 a0_0, .int .i64 a0_1, .slice A0_2 l0_2.length c0_2, .int .i64 a0_3]) (t := 26) ?hr ?_; (case hd => rfl); (case hg => rfl); (case hr => first | (go_simp; done) | (go_simp; rfl)); intro gb334 hg w4 hbox hb; have n0_ := Aside0.mk (below_step (by repeat (first | (with_reducible first | exact HB.out | apply below_alloc | apply pw_below_drewN | apply below_drew1) | exact HB.out)) hb); have n1_ := Aside0.mk (hbox); have n2_ := Aside0.mk ((by rw [hg]; exact (below_size (by repeat (first | (with_reducible first | exact HB.out | apply below_alloc | apply pw_below_drewN | apply below_drew1) | exact HB.out))) : w.heap.size ≤ gb334)); have n3_ := Aside0.mk ((by rw [hg]; exact (below_size (by repeat (first | (with_reducible first | exact HB.out | apply below_alloc | apply pw_below_drewN | apply below_drew1) | exact HB.out))) : w.heap.size ≤ gb334)); clear HB; have HB := n0_; have BK334 := n1_; have GW334 := n2_; have GE334 := n3_; clear n0_ n1_ n2_ n3_; clear hb hbox hg))
  (try simp only [Act.put, List.setIfInBounds_toArray, List.set_cons_zero, List.set_cons_succ])
  go_cut [21] (fun v21 wc => ∃ (kq : Nat) (x21_2 : Bool), v21 = .bool x21_2 ∧ Aside0 (rialtoref08_TermAt.j0 kq a1 x21_2 a0_0 a0_1 l0_2 a0_3 = some (r1, r2)) ∧ Aside0 (kq ≤ k) ∧ Aside0 (wc.heap[gb334]? = some (.cells #[.int .i64 a0_0, .int .i64 a0_1, (.slice A0_2 l0_2.length c0_2), .int .i64 a0_3] 26 (0, 0))) ∧ Aside0 (Below w.heap.size w wc))
  case first =>
    have H := HC3.out
    clear HC3
    replace H := Option.bind_eq_some_iff.mp H
    obtain ⟨t335, A50, H⟩ := H
    replace H : (if t335 = 0 then (if a1 < a0_0 then (rialtoref08_TermAt.j0 k a1 true a0_0 a0_1 l0_2 a0_3) else ((rialtoref08_end.f a0_0 a0_1 l0_2 a0_3).bind fun t336 => (rialtoref08_TermAt.j0 k a1 (decide (a1 > t336)) a0_0 a0_1 l0_2 a0_3))) else (rialtoref08_TermAt.j0 k a1 true a0_0 a0_1 l0_2 a0_3)) = some (r1, r2) := H
    have A5 := Aside0.mk A50
    clear A50
    by_cases c6 : t335 = 0
    focus
      rw [if_pos c6] at H
      have c6b0 : (t335 == 0) = true := beq_iff_eq.mpr c6
      have c6b1 : (t335 != 0) = false := bne_eq_false_iff_eq.mpr c6
      clear c6
      (first | rw [c6b0] | (simp only [i64_w, i32_w]; rw [c6b0]) | skip)
      by_cases c7 : a1 < a0_0
      focus
        rw [if_pos c7] at H
        have c7b0 : decide (a1 < a0_0) = true := decide_eq_true c7
        clear c7
        have H' := Aside0.mk H
        clear H
      rotate_left 1
      focus
        rw [if_neg c7] at H
        have c7b0 : decide (a1 < a0_0) = false := decide_eq_false c7
        clear c7
        replace H := Option.bind_eq_some_iff.mp H
        obtain ⟨t336, A110, H⟩ := H
        replace H : (rialtoref08_TermAt.j0 k a1 (decide (a1 > t336)) a0_0 a0_1 l0_2 a0_3) = some (r1, r2) := H
        have A11 := Aside0.mk A110
        clear A110
        have H' := Aside0.mk H
        clear H
      rotate_left 1
    rotate_left 2
    focus
      rw [if_neg c6] at H
      have c6b0 : (t335 == 0) = false := beq_eq_false_iff_ne.mpr c6
      have c6b1 : (t335 != 0) = true := bne_iff_ne.mpr c6
      (first | rw [c6b0] | (simp only [i64_w, i32_w]; rw [c6b0]) | skip)
      have H' := Aside0.mk H
      clear H
    rotate_left 1
    all_goals
      have hczyb334_0 : w4.cell? ⟨gb334, 0, none⟩ = some (.int .i64 a0_0) := (blk_cell BK334.out 0).trans rfl
      have hczyb334_1 : w4.cell? ⟨gb334, 1, none⟩ = some (.int .i64 a0_1) := (blk_cell BK334.out 1).trans rfl
      have hczyb334_2 : w4.cell? ⟨gb334, 2, none⟩ = some (.slice A0_2 l0_2.length c0_2) := (blk_cell BK334.out 2).trans rfl
      have hczyb334_3 : w4.cell? ⟨gb334, 3, none⟩ = some (.int .i64 a0_3) := (blk_cell BK334.out 3).trans rfl
      have hfzyb334_0 := blk_frozen BK334.out 0
      have hfzyb334_1 := blk_frozen BK334.out 1
      have hfzyb334_2 := blk_frozen BK334.out 2
      have hfzyb334_3 := blk_frozen BK334.out 3
      go_wp2_with (first | ((with_reducible refine gate_callee (f := 31) rfl ?_); refine goesL_ (some 7) rfl rfl Try.func31 (by kernel_rfl) rfl #[.agg #[.int .i64 a0_0, .int .i64 a0_1, .slice A0_2 l0_2.length c0_2, .int .i64 a0_3]] rfl (by (try simp only [List.map_toArray, List.map_cons, List.map_nil]); first | done | rfl | (simp only [List.length_drop, List.length_take]; rfl)) ?_; (with_reducible refine (rialtoref08_Check.calls k a0_0 a0_1 _ _ l0_2 a0_3 t335 _ ?side1 ?side2 A5.out).mono ?_); (case side1 => repeat (first | exact (Kd.C_below HR0_2.out HB.out) | (with_reducible refine Kd.C_alloc ?_ _) | (with_reducible refine Kd.C_drewN ?_ _) | (with_reducible refine Kd.C_drew ?_))); (case side2 => exact HC0_2.out); rintro e wx7i0 ⟨rfl, hb⟩; refine ⟨_, rfl, ?_⟩; have n0_ := Aside0.mk (blk_below (g := gb334) (o := .cells #[.int .i64 a0_0, .int .i64 a0_1, .slice A0_2 l0_2.length c0_2, .int .i64 a0_3] 26 (0, 0)) (by (with_reducible repeat (first | refine blk_drewN ?_ _ | refine blk_drew ?_ | refine blk_alloc ?_ _)); exact BK334.out) hb); have n1_ := Aside0.mk (below_step (by repeat (first | (with_reducible first | exact HB.out | apply below_alloc | apply pw_below_drewN | apply below_drew1 | refine below_set ?_ GE334.out) | exact HB.out)) hb); clear BK334; clear HB; have BK334 := n0_; have HB := n1_; clear n0_ n1_; (try clear hb); (try clear hb2); (try clear hk); (try clear hi); (try have hczx7b334_0 : wx7i0.cell? ⟨gb334, 0, none⟩ = some (.int .i64 a0_0) := (blk_cell BK334.out 0).trans rfl); (try have hczx7b334_1 : wx7i0.cell? ⟨gb334, 1, none⟩ = some (.int .i64 a0_1) := (blk_cell BK334.out 1).trans rfl); (try have hczx7b334_2 : wx7i0.cell? ⟨gb334, 2, none⟩ = some (.slice A0_2 l0_2.length c0_2) := (blk_cell BK334.out 2).trans rfl); (try have hczx7b334_3 : wx7i0.cell? ⟨gb334, 3, none⟩ = some (.int .i64 a0_3) := (blk_cell BK334.out 3).trans rfl); (try have hfzx7b334_0 := blk_frozen BK334.out 0); (try have hfzx7b334_1 := blk_frozen BK334.out 1); (try have hfzx7b334_2 := blk_frozen BK334.out 2); (try have hfzx7b334_3 := blk_frozen BK334.out 3)) | (go_at_call 47; (with_reducible refine (rialtoref08_end.calls a0_0 a0_1 _ _ l0_2 a0_3 t336 _ ?side1 ?side2 A11.out).mono ?_); (case side1 => repeat (first | exact (Kd.C_below HR0_2.out HB.out) | (with_reducible refine Kd.C_alloc ?_ _) | (with_reducible refine Kd.C_drewN ?_ _) | (with_reducible refine Kd.C_drew ?_))); (case side2 => exact HC0_2.out); rintro e wyi0 ⟨rfl, hb⟩; have n0_ := Aside0.mk (blk_below (g := gb334) (o := .cells #[.int .i64 a0_0, .int .i64 a0_1, .slice A0_2 l0_2.length c0_2, .int .i64 a0_3] 26 (0, 0)) (by (with_reducible repeat (first | refine blk_drewN ?_ _ | refine blk_drew ?_ | refine blk_alloc ?_ _)); exact BK334.out) hb); have n1_ := Aside0.mk (below_step (by repeat (first | (with_reducible first | exact HB.out | apply below_alloc | apply pw_below_drewN | apply below_drew1 | refine below_set ?_ GE334.out) | exact HB.out)) hb); clear BK334; clear HB; have BK334 := n0_; have HB := n1_; clear n0_ n1_; (try clear hb); (try clear hb2); (try clear hk); (try clear hi)))
      go_meet
      case rel => (first | exact ⟨_, (true), (by first | rfl | (simp; done) | (simp [*]; done)), H', ⟨by first | omega | exact Nat.le_refl _⟩, ⟨by (with_reducible repeat (first | refine blk_drewN ?_ _ | refine blk_drew ?_ | refine blk_alloc ?_ _)); exact BK334.out⟩, ⟨by repeat (first | (with_reducible first | exact HB.out | apply below_alloc | apply pw_below_drewN | apply below_drew1 | refine below_set ?_ GE334.out) | exact HB.out)⟩⟩ | exact ⟨_, (decide (a1 > t336)), (by first | rfl | (simp; done) | (simp [*]; done)), H', ⟨by first | omega | exact Nat.le_refl _⟩, ⟨by (with_reducible repeat (first | refine blk_drewN ?_ _ | refine blk_drew ?_ | refine blk_alloc ?_ _)); exact BK334.out⟩, ⟨by repeat (first | (with_reducible first | exact HB.out | apply below_alloc | apply pw_below_drewN | apply below_drew1 | refine below_set ?_ GE334.out) | exact HB.out)⟩⟩)
  case rest =>
    clear HC3
    obtain ⟨kq, x21_2, rfl, HA, HJ2, BK334, HB⟩ := hcut
    cases kq with
    | zero => exact absurd HA.out (by simp [rialtoref08_TermAt.j0])
    | succ kj2 =>
      have H := HA.out
      clear HA
      simp only [rialtoref08_TermAt.j0] at H
      by_cases c18 : x21_2 = true
      · subst c18
        have H1 : (some (0, false)) = some (r1, r2) := by rw [if_pos rfl] at H; exact H
        clear H
        have H := H1
        clear H1
        simp only [Option.some.injEq, Prod.mk.injEq] at H
        obtain ⟨rfl, rfl⟩ := H
        go_wp2
        go_ret2
        exact ⟨by first | rfl | (simp [errW_none, errW_some] <;> rfl) | (simp [*, errW_none, errW_some] <;> rfl), by repeat (first | (with_reducible first | exact HB.out | apply below_alloc | apply pw_below_drewN | apply below_drew1 | refine below_set ?_ GE334.out) | exact HB.out)⟩
      · replace c18 := Bool.eq_false_iff.mpr c18
        subst c18
        have H1 : (if a1 = a0_0 then (some (a0_1, true)) else (if 0 ≤ (wrap64 ((wrap64 (a1 - a0_0)) - 1)) then (if (wrap64 ((wrap64 (a1 - a0_0)) - 1)) < (l0_2.length : Int) then (some ((rd_T33 l0_2 (wrap64 ((wrap64 (a1 - a0_0)) - 1))).f0, true)) else (none)) else (none))) = some (r1, r2) := by rw [if_neg (show ¬ (false = true) by decide)] at H; exact H
        clear H
        have H := H1
        clear H1
        by_cases c19 : a1 = a0_0
        · rw [if_pos c19] at H
          have c19b0 : (a1 == a0_0) = true := beq_iff_eq.mpr c19
          have c19b1 : (a1 != a0_0) = false := bne_eq_false_iff_eq.mpr c19
          clear c19
          simp only [Option.some.injEq, Prod.mk.injEq] at H
          obtain ⟨rfl, rfl⟩ := H
          have hcz20_0 : wc.cell? ⟨gb334, 0, none⟩ = some (.int .i64 a0_0) := (blk_cell BK334.out 0).trans rfl
          have hcz20_1 : wc.cell? ⟨gb334, 1, none⟩ = some (.int .i64 a0_1) := (blk_cell BK334.out 1).trans rfl
          have hcz20_2 : wc.cell? ⟨gb334, 2, none⟩ = some (.slice A0_2 l0_2.length c0_2) := (blk_cell BK334.out 2).trans rfl
          have hcz20_3 : wc.cell? ⟨gb334, 3, none⟩ = some (.int .i64 a0_3) := (blk_cell BK334.out 3).trans rfl
          have hfz20_0 := blk_frozen BK334.out 0
          have hfz20_1 := blk_frozen BK334.out 1
          have hfz20_2 := blk_frozen BK334.out 2
          have hfz20_3 := blk_frozen BK334.out 3
          go_wp2
          go_ret2
          exact ⟨by first | rfl | (simp [errW_none, errW_some] <;> rfl) | (simp [*, errW_none, errW_some] <;> rfl), by repeat (first | (with_reducible first | exact HB.out | apply below_alloc | apply pw_below_drewN | apply below_drew1 | refine below_set ?_ GE334.out) | exact HB.out)⟩
        · rw [if_neg c19] at H
          have c19b0 : (a1 == a0_0) = false := beq_eq_false_iff_ne.mpr c19
          have c19b1 : (a1 != a0_0) = true := bne_iff_ne.mpr c19
          obtain ⟨ji21, hji21⟩ : ∃ j_ : Int, (wrap64 ((wrap64 (a1 - a0_0)) - 1)) = j_ := ⟨_, rfl⟩
          replace H : (if 0 ≤ (ji21) then (if (ji21) < (l0_2.length : Int) then (some ((rd_T33 l0_2 (ji21)).f0, true)) else (none)) else (none)) = some (r1, r2) := by first | (rw [hji21] at H; exact H) | (simp only [hji21] at H ⊢; exact H)
          have hji21w : (IntKind.i64.wrap ((wrap64 (a1 - a0_0)) - 1)) = ji21 := (i64_w _).trans hji21
          by_cases c22 : 0 ≤ (ji21)
          · rw [if_pos c22] at H
            have c22b0 : decide (0 ≤ (ji21)) = true := decide_eq_true c22
            clear c22
            by_cases c23 : (ji21) < (l0_2.length : Int)
            · rw [if_pos c23] at H
              have c23b0 : decide ((ji21) < (l0_2.length : Int)) = true := decide_eq_true c23
              clear c23
              simp only [Option.some.injEq, Prod.mk.injEq] at H
              obtain ⟨rfl, rfl⟩ := H
              have hcz24_0 : wc.cell? ⟨gb334, 0, none⟩ = some (.int .i64 a0_0) := (blk_cell BK334.out 0).trans rfl
              have hcz24_1 : wc.cell? ⟨gb334, 1, none⟩ = some (.int .i64 a0_1) := (blk_cell BK334.out 1).trans rfl
              have hcz24_2 : wc.cell? ⟨gb334, 2, none⟩ = some (.slice A0_2 l0_2.length c0_2) := (blk_cell BK334.out 2).trans rfl
              have hcz24_3 : wc.cell? ⟨gb334, 3, none⟩ = some (.int .i64 a0_3) := (blk_cell BK334.out 3).trans rfl
              have hfz24_0 := blk_frozen BK334.out 0
              have hfz24_1 := blk_frozen BK334.out 1
              have hfz24_2 := blk_frozen BK334.out 2
              have hfz24_3 := blk_frozen BK334.out 3
              have p337 : 0 ≤ ((ji21) : Int) := of_decide_eq_true (by first | (with_reducible assumption) | assumption)
              have q337 : (ji21) < (l0_2.length : Int) := of_decide_eq_true (by first | (with_reducible assumption) | assumption)
              obtain ⟨ad337, e337, hx337_0, hx337_1, hx337_2⟩ := at_T33 HR0_2.out (ji21) p337 q337
              cases e337
              replace hx337_0 := (HB.out.cell (World.block_lt_of_cell? w _ hx337_0)).trans hx337_0
              replace hx337_1 := (HB.out.cell (World.block_lt_of_cell? w _ hx337_1)).trans hx337_1
              replace hx337_2 := (HB.out.cell (World.block_lt_of_cell? w _ hx337_2)).trans hx337_2
              replace p337 := eq_true p337
              replace q337 := eq_true q337
              go_wp2
              go_ret2
              exact ⟨by first | rfl | (simp [errW_none, errW_some] <;> rfl) | (simp only [← hji21]; first | rfl | (simp [errW_none, errW_some] <;> rfl)) | (simp [*, errW_none, errW_some] <;> rfl), by repeat (first | (with_reducible first | exact HB.out | apply below_alloc | apply pw_below_drewN | apply below_drew1 | refine below_set ?_ GE334.out) | exact HB.out)⟩
            · rw [if_neg c23] at H
              exact absurd H (by simp)
          · rw [if_neg c22] at H
            exact absurd H (by simp)

end Go.Proofs.Ytiebeiloooblpaa.E
end
section
-- written by myprint.py, a program of this session over the kit's print.py
namespace Go.Proofs.Ytiebeiloooblpaa.E
open Go.Proofs.YtiebeiloooblpaaST
open Go.RowKit Go.Proofs.YtiebeiloooblpaaW.PrintWords Go.Proofs.YtiebeiloooblpaaW.PrintLast Go.Proofs.YtiebeiloooblpaaW.PrintMore
attribute [local go_sem] max2_int min2_int max_two min_two max_three min_three max_four min_four   -- for this text's walks alone
set_option linter.unusedVariables false
set_option linter.unusedSimpArgs false

/-! ### rialtoref08_Accept: function 21 -/
mutual
def rialtoref08_Accept.j0 : Nat → List (S33) → Int → Bool → Int → Int → List (S33) → Int → Int → Int → Option (Int × Int × (List (S33)) × Int × Int × Bool × Int)
  | 0, _, _, _, _, _, _, _, _, _ => none
  | k + 1, x2, x3, x38, x459000, x459001, x459002, x459003, x460000, x460001 => if x38 = true then (some (0, 0, ([] : List (S33)), 0, 0, false, 1)) else ((rialtoref08_Copy.f x459000 x459001 x459002 x459003).bind fun bt465 => (if x460000 ≥ x459000 then ((rialtoref08_TermAt.f k x459000 x459001 x459002 x459003 x460000).bind fun bt472 => (if bt472.2 = true then (if bt472.1 = x460001 then (rialtoref08_Accept.j1 k x2 x3 x459000 x459001 x459002 x459003 x460000 x460001 bt465.1 bt465.2.1 bt465.2.2.1 bt465.2.2.2) else (some (bt465.1, bt465.2.1, bt465.2.2.1, bt465.2.2.2, 0, false, 0))) else (some (bt465.1, bt465.2.1, bt465.2.2.1, bt465.2.2.2, 0, false, 0)))) else (rialtoref08_Accept.j1 k x2 x3 x459000 x459001 x459002 x459003 x460000 x460001 bt465.1 bt465.2.1 bt465.2.2.1 bt465.2.2.2)))
def rialtoref08_Accept.j1 : Nat → List (S33) → Int → Int → Int → List (S33) → Int → Int → Int → Int → Int → List (S33) → Int → Option (Int × Int × (List (S33)) × Int × Int × Bool × Int)
  | 0, _, _, _, _, _, _, _, _, _, _, _, _ => none
  | k + 1, x2, x3, x459000, x459001, x459002, x459003, x460000, x460001, x472000, x472001, x472002, x472003 => rialtoref08_Accept.l0 k x2 x3 (wrap64 (x460000 + (x2.length : Int))) 0 x459000 x459001 x459002 x459003 x460000 x460001 x472000 x472001 x472002 x472003
def rialtoref08_Accept.j4 : Nat → Int → Int → Int → Int → List (S33) → Int → Int → Int → List (S33) → Int → Option (Int × Int × (List (S33)) × Int × Int × Bool × Int)
  | 0, _, _, _, _, _, _, _, _, _, _ => none
  | k + 1, x3, x15, x459000, x459001, x459002, x459003, x472000, x472001, x472002, x472003 => (rialtoref08_Rows.f k x472002 x459001).bind fun t491 => (if t491 = true then (if (x472002.length : Int) > 400 then (some (0, 0, ([] : List (S33)), 0, 0, false, 2)) else ((rialtoref08_end.f x472000 x472001 x472002 x472003).bind fun t492 => (if t492 > 1000000 then (some (0, 0, ([] : List (S33)), 0, 0, false, 2)) else (some (x472000, x472001, x472002, mx x472003 (mn x3 x15), mx x15 x459000, true, 0))))) else (some (0, 0, ([] : List (S33)), 0, 0, false, 80)))
def rialtoref08_Accept.l0 : Nat → List (S33) → Int → Int → Int → Int → Int → List (S33) → Int → Int → Int → Int → Int → List (S33) → Int → Option (Int × Int × (List (S33)) × Int × Int × Bool × Int)
  | 0, _, _, _, _, _, _, _, _, _, _, _, _, _, _ => none
  | k + 1, x2, x3, x15, x16, x459000, x459001, x459002, x459003, x460000, x460001, x472000, x472001, x472002, x472003 => if x16 < (x2.length : Int) then (if (wrap64 ((wrap64 (x460000 + 1)) + x16)) ≤ x459000 then (rialtoref08_Accept.l0 k x2 x3 x15 (wrap64 (x16 + 1)) x459000 x459001 x459002 x459003 x460000 x460001 x472000 x472001 x472002 x472003) else ((rialtoref08_TermAt.f k x459000 x459001 x459002 x459003 (wrap64 ((wrap64 (x460000 + 1)) + x16))).bind fun bt474 => (if bt474.2 = true then (if 0 ≤ x16 then (rialtoref08_Accept.j3 k x2 x3 x15 x16 (wrap64 ((wrap64 (x460000 + 1)) + x16)) (bt474.1 == ((rd_T33 x2 x16).f0)) x459000 x459001 x459002 x459003 x460000 x460001 x472000 x472001 x472002 x472003) else (none)) else (rialtoref08_Accept.j3 k x2 x3 x15 x16 (wrap64 ((wrap64 (x460000 + 1)) + x16)) false x459000 x459001 x459002 x459003 x460000 x460001 x472000 x472001 x472002 x472003)))) else (rialtoref08_Accept.j4 k x3 x15 x459000 x459001 x459002 x459003 x472000 x472001 x472002 x472003)
def rialtoref08_Accept.j3 : Nat → List (S33) → Int → Int → Int → Int → Bool → Int → Int → List (S33) → Int → Int → Int → Int → Int → List (S33) → Int → Option (Int × Int × (List (S33)) × Int × Int × Bool × Int)
  | 0, _, _, _, _, _, _, _, _, _, _, _, _, _, _, _, _ => none
  | k + 1, x2, x3, x15, x16, x17, x100, x459000, x459001, x459002, x459003, x460000, x460001, x472000, x472001, x472002, x472003 => if x100 = true then (rialtoref08_Accept.l0 k x2 x3 x15 (wrap64 (x16 + 1)) x459000 x459001 x459002 x459003 x460000 x460001 x472000 x472001 x472002 x472003) else (if x17 ≤ x459003 then (some (0, 0, ([] : List (S33)), 0, 0, false, 80)) else (if 0 ≤ (wrap64 ((wrap64 (x17 - x459000)) - 1)) then (if (wrap64 ((wrap64 (x17 - x459000)) - 1)) ≤ (x459002.length : Int) then ((some (x459002.take ((wrap64 ((wrap64 (x17 - x459000)) - 1)) : Int).toNat : List (S33))).bind fun y477 => (if ([] : List (S33)).length + y477.length < 4398046511104 then ((some (([] : List (S33)) ++ y477 : List (S33))).bind fun y481 => (if 0 ≤ x16 then (if x16 ≤ (x2.length : Int) then ((some (x2.drop (x16 : Int).toNat : List (S33))).bind fun y484 => (if y481.length + y484.length < 4398046511104 then (rialtoref08_Accept.j4 k x3 x15 x459000 x459001 x459002 x459003 x472000 x472001 (y481 ++ y484) x472003) else (none))) else (none)) else (none))) else (none))) else (none)) else (none)))
end
def rialtoref08_Accept.f (k : Nat) (a0_0 : Int) (a0_1 : Int) (l0_2 : List (S33)) (a0_3 : Int) (a1_0 : Int) (a1_1 : Int) (l2 : List (S33)) (a3 : Int) : Option (Int × Int × (List (S33)) × Int × Int × Bool × Int) := (rialtoref08_Check.f k a0_0 a0_1 l0_2 a0_3).bind fun t461 => (if t461 = 0 then ((rialtoref07_Mark.f a1_0 a1_1).bind fun t462 => (if t462 = true then ((rialtoref08_within.f a3 0 1000000).bind fun t463 => (if t463 = true then ((rialtoref08_Rows.f k l2 a1_1).bind fun t464 => (rialtoref08_Accept.j0 k l2 a3 (!t464) a0_0 a0_1 l0_2 a0_3 a1_0 a1_1)) else (rialtoref08_Accept.j0 k l2 a3 true a0_0 a0_1 l0_2 a0_3 a1_0 a1_1))) else (rialtoref08_Accept.j0 k l2 a3 true a0_0 a0_1 l0_2 a0_3 a1_0 a1_1))) else (some (0, 0, ([] : List (S33)), 0, 0, false, 80)))
def rialtoref08_Accept.T21 : Bool × List (List Nat × List Nat) := (true, [([], []), ([0], [0]), ([], []), ([2], [2]), ([], []), ([], []), ([5], [5]), ([6], [6]), ([4, 7], [4, 7]), ([8], [8]), ([3, 9], [3, 9]), ([1, 10], [1, 10]), ([0, 1, 2, 3, 4, 5, 6, 7, 8, 9, 10, 11], []), ([12, 11, 11, 0, 1, 2, 3, 4, 5, 6, 7, 8, 9, 10, 11], [11, 12])])
def rialtoref08_Accept.B21 : List Nat := [0, 1, 0, 4, 0, 0, 32, 96, 240, 496, 1020, 2047, 4095, 8191]
theorem rialtoref08_Accept.tab21 : rtab .any (opsOf Try.f21 21) = rialtoref08_Accept.T21 := by kernel_rfl
theorem rialtoref08_Accept.bits21 : waitsOk rialtoref08_Accept.T21.2 rialtoref08_Accept.B21 = true := by kernel_rfl
def rialtoref08_Accept.T22 : Bool × List (List Nat × List Nat) := (true, [([], []), ([0], [0]), ([], []), ([], []), ([2, 3], [2, 3]), ([1, 4], [1, 4]), ([0, 1, 2, 3, 4, 5], []), ([6, 5, 5, 0, 1, 2, 3, 4, 5], [5, 6])])
def rialtoref08_Accept.B22 : List Nat := [0, 1, 0, 0, 12, 31, 63, 127]
theorem rialtoref08_Accept.tab22 : rtab .any (opsOf Try.f21 22) = rialtoref08_Accept.T22 := by kernel_rfl
theorem rialtoref08_Accept.bits22 : waitsOk rialtoref08_Accept.T22.2 rialtoref08_Accept.B22 = true := by kernel_rfl
def rialtoref08_Accept.T28 : Bool × List (List Nat × List Nat) := (true, [([], []), ([], []), ([], []), ([2], [2]), ([3], [3]), ([1, 4], [1, 4]), ([0, 0], [0]), ([5, 6, 0, 1, 2, 3, 4, 5, 6], [5]), ([7, 0, 1, 2, 3, 4, 5, 6, 7], []), ([8, 0, 1, 2, 3, 4, 5, 6, 7, 8], [])])
def rialtoref08_Accept.B28 : List Nat := [0, 0, 0, 4, 12, 30, 1, 127, 255, 511]
theorem rialtoref08_Accept.tab28 : rtab .any (opsOf Try.f21 28) = rialtoref08_Accept.T28 := by kernel_rfl
theorem rialtoref08_Accept.bits28 : waitsOk rialtoref08_Accept.T28.2 rialtoref08_Accept.B28 = true := by kernel_rfl
set_option maxHeartbeats 8000000 in
set_option maxRecDepth 100000 in
theorem rialtoref08_Accept.calls (k : Nat) (a0_0 : Int) (a0_1 : Int) (A0_2 : Option Addr) (c0_2 : Nat) (l0_2 : List (S33)) (a0_3 : Int) (a1_0 : Int) (a1_1 : Int) (A2 : Option Addr) (c2 : Nat) (l2 : List (S33)) (a3 : Int) (r1 : Int) (r2 : Int) (r3 : List (S33)) (r4 : Int) (r5 : Int) (r6 : Bool) (r7 : Int) (w : World) (hr0_2 : Kd.C k33 w A0_2 l0_2.length l0_2) (hc0_2 : l0_2.length ≤ c0_2) (hr2 : Kd.C k33 w A2 l2.length l2) (hc2 : l2.length ≤ c2) (h : rialtoref08_Accept.f k a0_0 a0_1 l0_2 a0_3 a1_0 a1_1 l2 a3 = some (r1, r2, r3, r4, r5, r6, r7)) :
    Calls Try.prog 21 #[.agg #[.int .i64 a0_0, .int .i64 a0_1, .slice A0_2 l0_2.length c0_2, .int .i64 a0_3], .agg #[.int .i64 a1_0, .int .i64 a1_1], .slice A2 l2.length c2, .int .i64 a3] w fun e w' => ∃ v2_ : Value, e = .returned (.tuple #[.agg #[.int .i64 r1, .int .i64 r2, v2_, .int .i64 r4], .int .i64 r5, .bool r6, .int .i64 r7]) ∧ Kd.R k33 33 w' w.heap.size (fun _ => True) v2_ r3 ∧ Below w.heap.size w w' := by
  have hu26 := Try.underlying26
  have hu23 := Try.underlying23
  have HR0_2 := Aside0.mk hr0_2
  have HC0_2 := Aside0.mk hc0_2
  clear hr0_2 hc0_2
  have HR2 := Aside0.mk hr2
  have HC2 := Aside0.mk hc2
  clear hr2 hc2
  have HB := Aside0.mk (Below.refl w.heap.size w)
  have H : ((rialtoref08_Check.f k a0_0 a0_1 l0_2 a0_3).bind fun t461 => (if t461 = 0 then ((rialtoref07_Mark.f a1_0 a1_1).bind fun t462 => (if t462 = true then ((rialtoref08_within.f a3 0 1000000).bind fun t463 => (if t463 = true then ((rialtoref08_Rows.f k l2 a1_1).bind fun t464 => (rialtoref08_Accept.j0 k l2 a3 (!t464) a0_0 a0_1 l0_2 a0_3 a1_0 a1_1)) else (rialtoref08_Accept.j0 k l2 a3 true a0_0 a0_1 l0_2 a0_3 a1_0 a1_1))) else (rialtoref08_Accept.j0 k l2 a3 true a0_0 a0_1 l0_2 a0_3 a1_0 a1_1))) else (some (0, 0, ([] : List (S33)), 0, 0, false, 80)))) = some (r1, r2, r3, r4, r5, r6, r7) := h
  clear h
  replace H := Option.bind_eq_some_iff.mp H
  obtain ⟨t461, A50, H⟩ := H
  replace H : (if t461 = 0 then ((rialtoref07_Mark.f a1_0 a1_1).bind fun t462 => (if t462 = true then ((rialtoref08_within.f a3 0 1000000).bind fun t463 => (if t463 = true then ((rialtoref08_Rows.f k l2 a1_1).bind fun t464 => (rialtoref08_Accept.j0 k l2 a3 (!t464) a0_0 a0_1 l0_2 a0_3 a1_0 a1_1)) else (rialtoref08_Accept.j0 k l2 a3 true a0_0 a0_1 l0_2 a0_3 a1_0 a1_1))) else (rialtoref08_Accept.j0 k l2 a3 true a0_0 a0_1 l0_2 a0_3 a1_0 a1_1))) else (some (0, 0, ([] : List (S33)), 0, 0, false, 80))) = some (r1, r2, r3, r4, r5, r6, r7) := H
  have A5 := Aside0.mk A50
  clear A50
  by_cases c6 : t461 = 0
  · rw [if_pos c6] at H
    have c6b0 : (t461 == 0) = true := beq_iff_eq.mpr c6
    have c6b1 : (t461 != 0) = false := bne_eq_false_iff_eq.mpr c6
    clear c6
    have HC7 := Aside0.mk H
    clear H
    go_enter Try.func21, Try.ntmps21
    go_upto_region 3 with (first | ((with_reducible refine gate_dst (N := 4) rfl ?_); refine box_event ?hg (N := 4) ?hd (cs := #[.int .i64 a0_0, .int .i64 a0_1, .slice A0_2 l0_2.length c0_2, .int .i64 a0_3]) (t := 26) ?hr ?_; (case hd => rfl); (case hg => rfl); (case hr => first | (go_simp; done) | (go_simp; rfl)); intro gb458 hg w8 hbox hb; have n0_ := Aside0.mk (below_step (by repeat (first | (with_reducible first | exact HB.out | apply below_alloc | apply pw_below_drewN | apply below_drew1) | exact HB.out)) hb); have n1_ := Aside0.mk (hbox); have n2_ := Aside0.mk ((by rw [hg]; exact (below_size (by repeat (first | (with_reducible first | exact HB.out | apply below_alloc | apply pw_below_drewN | apply below_drew1) | exact HB.out))) : w.heap.size ≤ gb458)); have n3_ := Aside0.mk ((by rw [hg]; exact (below_size (by repeat (first | (with_reducible first | exact HB.out | apply below_alloc | apply pw_below_drewN | apply below_drew1) | exact HB.out))) : w.heap.size ≤ gb458)); clear HB; have HB := n0_; have BK458 := n1_; have GW458 := n2_; have GE458 := n3_; clear n0_ n1_ n2_ n3_; clear hb hbox hg) | ((with_reducible refine gate_dst (N := 5) rfl ?_); refine box_event ?hg (N := 5) ?hd (cs := #[.int .i64 a1_0, .int .i64 a1_1]) (t := 23) ?hr ?_; (case hd => rfl); (case hg => rfl); (case hr => first | (go_simp; done) | (go_simp; rfl)); intro gb459 hg w9 hbox hb; have n0_ := Aside0.mk (blk_below (g := gb458) (o := .cells #[.int .i64 a0_0, .int .i64 a0_1, .slice A0_2 l0_2.length c0_2, .int .i64 a0_3] 26 (0, 0)) (by (with_reducible repeat (first | refine blk_drewN ?_ _ | refine blk_drew ?_ | refine blk_alloc ?_ _)); exact BK458.out) hb); have n1_ := Aside0.mk (below_step (by repeat (first | (with_reducible first | exact HB.out | apply below_alloc | apply pw_below_drewN | apply below_drew1 | refine below_set ?_ GE458.out) | exact HB.out)) hb); have n2_ := Aside0.mk (hbox); have n3_ := Aside0.mk ((by rw [hg]; exact (below_size (by repeat (first | (with_reducible first | exact HB.out | apply below_alloc | apply pw_below_drewN | apply below_drew1 | refine below_set ?_ GE458.out) | exact HB.out))) : w.heap.size ≤ gb459)); have n4_ := Aside0.mk ((by rw [hg]; exact (below_size (by repeat (first | (with_reducible first | exact HB.out | apply below_alloc | apply pw_below_drewN | apply below_drew1 | refine below_set ?_ GE458.out) | exact HB.out))) : w.heap.size ≤ gb459)); have n5_ := Aside0.mk ((by rw [hg]; exact Nat.ne_of_lt (blk_lt (g := gb458) (o := .cells #[.int .i64 a0_0, .int .i64 a0_1, .slice A0_2 l0_2.length c0_2, .int .i64 a0_3] 26 (0, 0)) (by (with_reducible repeat (first | refine blk_drewN ?_ _ | refine blk_drew ?_ | refine blk_alloc ?_ _)); exact BK458.out)) : gb458 ≠ gb459)); have n6_ := Aside0.mk ((by rw [hg]; exact Nat.ne_of_gt (blk_lt (g := gb458) (o := .cells #[.int .i64 a0_0, .int .i64 a0_1, .slice A0_2 l0_2.length c0_2, .int .i64 a0_3] 26 (0, 0)) (by (with_reducible repeat (first | refine blk_drewN ?_ _ | refine blk_drew ?_ | refine blk_alloc ?_ _)); exact BK458.out)) : gb459 ≠ gb458)); clear BK458; clear HB; have BK458 := n0_; have HB := n1_; have BK459 := n2_; have GW459 := n3_; have GE459 := n4_; have NB458_459 := n5_; have NB459_458 := n6_; clear n0_ n1_ n2_ n3_ n4_ n5_ n6_; clear hb hbox hg) | ((with_reducible refine gate_dst (N := 8) rfl ?_); refine box_event ?hg (N := 8) ?hd (cs := #[.int .i64 0, .int .i64 0, .slice none 0 0, .int .i64 0]) (t := 26) ?hr ?_; (case hd => rfl); (case hg => rfl); (case hr => first | (go_simp; done) | (go_simp; rfl)); intro gb460 hg w10 hbox hb; have n0_ := Aside0.mk (blk_below (g := gb458) (o := .cells #[.int .i64 a0_0, .int .i64 a0_1, .slice A0_2 l0_2.length c0_2, .int .i64 a0_3] 26 (0, 0)) (by (with_reducible repeat (first | refine blk_drewN ?_ _ | refine blk_drew ?_ | refine blk_alloc ?_ _)); exact BK458.out) hb); have n1_ := Aside0.mk (blk_below (g := gb459) (o := .cells #[.int .i64 a1_0, .int .i64 a1_1] 23 (0, 0)) (by (with_reducible repeat (first | refine blk_drewN ?_ _ | refine blk_drew ?_ | refine blk_alloc ?_ _)); exact BK459.out) hb); have n2_ := Aside0.mk (below_step (by repeat (first | (with_reducible first | exact HB.out | apply below_alloc | apply pw_below_drewN | apply below_drew1 | refine below_set ?_ GE458.out | refine below_set ?_ GE459.out) | exact HB.out)) hb); have n3_ := Aside0.mk (hbox); have n4_ := Aside0.mk ((by rw [hg]; exact (below_size (by repeat (first | (with_reducible first | exact HB.out | apply below_alloc | apply pw_below_drewN | apply below_drew1 | refine below_set ?_ GE458.out | refine below_set ?_ GE459.out) | exact HB.out))) : w.heap.size ≤ gb460)); have n5_ := Aside0.mk ((by rw [hg]; exact (below_size (by repeat (first | (with_reducible first | exact HB.out | apply below_alloc | apply pw_below_drewN | apply below_drew1 | refine below_set ?_ GE458.out | refine below_set ?_ GE459.out) | exact HB.out))) : w.heap.size ≤ gb460)); have n6_ := Aside0.mk ((by rw [hg]; exact Nat.ne_of_lt (blk_lt (g := gb458) (o := .cells #[.int .i64 a0_0, .int .i64 a0_1, .slice A0_2 l0_2.length c0_2, .int .i64 a0_3] 26 (0, 0)) (by (with_reducible repeat (first | refine blk_drewN ?_ _ | refine blk_drew ?_ | refine blk_alloc ?_ _)); exact BK458.out)) : gb458 ≠ gb460)); have n7_ := Aside0.mk ((by rw [hg]; exact Nat.ne_of_gt (blk_lt (g := gb458) (o := .cells #[.int .i64 a0_0, .int .i64 a0_1, .slice A0_2 l0_2.length c0_2, .int .i64 a0_3] 26 (0, 0)) (by (with_reducible repeat (first | refine blk_drewN ?_ _ | refine blk_drew ?_ | refine blk_alloc ?_ _)); exact BK458.out)) : gb460 ≠ gb458)); have n8_ := Aside0.mk ((by rw [hg]; exact Nat.ne_of_lt (blk_lt (g := gb459) (o := .cells #[.int .i64 a1_0, .int .i64 a1_1] 23 (0, 0)) (by (with_reducible repeat (first | refine blk_drewN ?_ _ | refine blk_drew ?_ | refine blk_alloc ?_ _)); exact BK459.out)) : gb459 ≠ gb460)); have n9_ := Aside0.mk ((by rw [hg]; exact Nat.ne_of_gt (blk_lt (g := gb459) (o := .cells #[.int .i64 a1_0, .int .i64 a1_1] 23 (0, 0)) (by (with_reducible repeat (first | refine blk_drewN ?_ _ | refine blk_drew ?_ | refine blk_alloc ?_ _)); exact BK459.out)) : gb460 ≠ gb459)); clear BK458; clear BK459; clear HB; have BK458 := n0_; have BK459 := n1_; have HB := n2_; have BK460 := n3_; have GW460 := n4_; have GE460 := n5_; have NB458_460 := n6_; have NB460_458 := n7_; have NB459_460 := n8_; have NB460_459 := n9_; clear n0_ n1_ n2_ n3_ n4_ n5_ n6_ n7_ n8_ n9_; clear hb hbox hg; have hnb11 := NB458_459.out; have hnc11 := NB459_458.out; have hnb12 := NB458_460.out; have hnc12 := NB460_458.out; have hcz13_0 : w10.cell? ⟨gb458, 0, none⟩ = some (.int .i64 a0_0) := (blk_cell BK458.out 0).trans rfl; have hcz13_1 : w10.cell? ⟨gb458, 1, none⟩ = some (.int .i64 a0_1) := (blk_cell BK458.out 1).trans rfl; have hcz13_2 : w10.cell? ⟨gb458, 2, none⟩ = some (.slice A0_2 l0_2.length c0_2) := (blk_cell BK458.out 2).trans rfl; have hcz13_3 : w10.cell? ⟨gb458, 3, none⟩ = some (.int .i64 a0_3) := (blk_cell BK458.out 3).trans rfl; have hfz13_0 := blk_frozen BK458.out 0; have hfz13_1 := blk_frozen BK458.out 1; have hfz13_2 := blk_frozen BK458.out 2; have hfz13_3 := blk_frozen BK458.out 3) | ((with_reducible refine gate_callee (f := 31) rfl ?_); refine goesL_ (some 21) rfl rfl Try.func31 (by kernel_rfl) rfl #[.agg #[.int .i64 a0_0, .int .i64 a0_1, .slice A0_2 l0_2.length c0_2, .int .i64 a0_3]] rfl (by (try simp only [List.map_toArray, List.map_cons, List.map_nil]); first | done | rfl | (simp only [List.length_drop, List.length_take]; rfl)) ?_; (with_reducible refine (rialtoref08_Check.calls k a0_0 a0_1 _ _ l0_2 a0_3 t461 _ ?side1 ?side2 A5.out).mono ?_); (case side1 => repeat (first | exact (Kd.C_below HR0_2.out HB.out) | (with_reducible refine Kd.C_alloc ?_ _) | (with_reducible refine Kd.C_drewN ?_ _) | (with_reducible refine Kd.C_drew ?_))); (case side2 => exact HC0_2.out); rintro e w14 ⟨rfl, hb⟩; refine ⟨_, rfl, ?_⟩; have n0_ := Aside0.mk (blk_below (g := gb458) (o := .cells #[.int .i64 a0_0, .int .i64 a0_1, .slice A0_2 l0_2.length c0_2, .int .i64 a0_3] 26 (0, 0)) (by (with_reducible repeat (first | refine blk_drewN ?_ _ | refine blk_drew ?_ | refine blk_alloc ?_ _)); exact BK458.out) hb); have n1_ := Aside0.mk (blk_below (g := gb459) (o := .cells #[.int .i64 a1_0, .int .i64 a1_1] 23 (0, 0)) (by (with_reducible repeat (first | refine blk_drewN ?_ _ | refine blk_drew ?_ | refine blk_alloc ?_ _)); exact BK459.out) hb); have n2_ := Aside0.mk (blk_below (g := gb460) (o := .cells #[.int .i64 0, .int .i64 0, .slice none 0 0, .int .i64 0] 26 (0, 0)) (by (with_reducible repeat (first | refine blk_drewN ?_ _ | refine blk_drew ?_ | refine blk_alloc ?_ _)); exact BK460.out) hb); have n3_ := Aside0.mk (below_step (by repeat (first | (with_reducible first | exact HB.out | apply below_alloc | apply pw_below_drewN | apply below_drew1 | refine below_set ?_ GE458.out | refine below_set ?_ GE459.out | refine below_set ?_ GE460.out) | exact HB.out)) hb); clear BK458; clear BK459; clear BK460; clear HB; have BK458 := n0_; have BK459 := n1_; have BK460 := n2_; have HB := n3_; clear n0_ n1_ n2_ n3_; (try clear hb); (try clear hb2); (try clear hk); (try clear hi)))
    (try simp only [Act.put, List.setIfInBounds_toArray, List.set_cons_zero, List.set_cons_succ])
    go_cut [38] (fun v38 wc => ∃ (kq : Nat) (x38_6 : Bool), v38 = .bool x38_6 ∧ Aside0 (rialtoref08_Accept.j0 kq l2 a3 x38_6 a0_0 a0_1 l0_2 a0_3 a1_0 a1_1 = some (r1, r2, r3, r4, r5, r6, r7)) ∧ Aside0 (kq ≤ k) ∧ Aside0 (wc.heap[gb458]? = some (.cells #[.int .i64 a0_0, .int .i64 a0_1, (.slice A0_2 l0_2.length c0_2), .int .i64 a0_3] 26 (0, 0))) ∧ Aside0 (wc.heap[gb459]? = some (.cells #[.int .i64 a1_0, .int .i64 a1_1] 23 (0, 0))) ∧ Aside0 (wc.heap[gb460]? = some (.cells #[.int .i64 0, .int .i64 0, (.slice none 0 0), .int .i64 0] 26 (0, 0))) ∧ Aside0 (Below w.heap.size w wc))
    case first =>
      have H := HC7.out
      clear HC7
      replace H := Option.bind_eq_some_iff.mp H
      obtain ⟨t462, A150, H⟩ := H
      replace H : (if t462 = true then ((rialtoref08_within.f a3 0 1000000).bind fun t463 => (if t463 = true then ((rialtoref08_Rows.f k l2 a1_1).bind fun t464 => (rialtoref08_Accept.j0 k l2 a3 (!t464) a0_0 a0_1 l0_2 a0_3 a1_0 a1_1)) else (rialtoref08_Accept.j0 k l2 a3 true a0_0 a0_1 l0_2 a0_3 a1_0 a1_1))) else (rialtoref08_Accept.j0 k l2 a3 true a0_0 a0_1 l0_2 a0_3 a1_0 a1_1)) = some (r1, r2, r3, r4, r5, r6, r7) := H
      have A15 := Aside0.mk A150
      clear A150
      by_cases c16 : t462 = true
      focus
        subst c16
        have H1 : ((rialtoref08_within.f a3 0 1000000).bind fun t463 => (if t463 = true then ((rialtoref08_Rows.f k l2 a1_1).bind fun t464 => (rialtoref08_Accept.j0 k l2 a3 (!t464) a0_0 a0_1 l0_2 a0_3 a1_0 a1_1)) else (rialtoref08_Accept.j0 k l2 a3 true a0_0 a0_1 l0_2 a0_3 a1_0 a1_1))) = some (r1, r2, r3, r4, r5, r6, r7) := by rw [if_pos rfl] at H; exact H
        clear H
        have H := H1
        clear H1
        replace H := Option.bind_eq_some_iff.mp H
        obtain ⟨t463, A170, H⟩ := H
        replace H : (if t463 = true then ((rialtoref08_Rows.f k l2 a1_1).bind fun t464 => (rialtoref08_Accept.j0 k l2 a3 (!t464) a0_0 a0_1 l0_2 a0_3 a1_0 a1_1)) else (rialtoref08_Accept.j0 k l2 a3 true a0_0 a0_1 l0_2 a0_3 a1_0 a1_1)) = some (r1, r2, r3, r4, r5, r6, r7) := H
        have A17 := Aside0.mk A170
        clear A170
        by_cases c18 : t463 = true
        focus
          subst c18
          have H1 : ((rialtoref08_Rows.f k l2 a1_1).bind fun t464 => (rialtoref08_Accept.j0 k l2 a3 (!t464) a0_0 a0_1 l0_2 a0_3 a1_0 a1_1)) = some (r1, r2, r3, r4, r5, r6, r7) := by rw [if_pos rfl] at H; exact H
          clear H
          have H := H1
          clear H1
          replace H := Option.bind_eq_some_iff.mp H
          obtain ⟨t464, A190, H⟩ := H
          replace H : (rialtoref08_Accept.j0 k l2 a3 (!t464) a0_0 a0_1 l0_2 a0_3 a1_0 a1_1) = some (r1, r2, r3, r4, r5, r6, r7) := H
          have A19 := Aside0.mk A190
          clear A190
          have H' := Aside0.mk H
          clear H
        rotate_left 1
        focus
          replace c18 := Bool.eq_false_iff.mpr c18
          subst c18
          have H1 : (rialtoref08_Accept.j0 k l2 a3 true a0_0 a0_1 l0_2 a0_3 a1_0 a1_1) = some (r1, r2, r3, r4, r5, r6, r7) := by rw [if_neg (show ¬ (false = true) by decide)] at H; exact H
          clear H
          have H := H1
          clear H1
          have H' := Aside0.mk H
          clear H
        rotate_left 1
      rotate_left 2
      focus
        replace c16 := Bool.eq_false_iff.mpr c16
        subst c16
        have H1 : (rialtoref08_Accept.j0 k l2 a3 true a0_0 a0_1 l0_2 a0_3 a1_0 a1_1) = some (r1, r2, r3, r4, r5, r6, r7) := by rw [if_neg (show ¬ (false = true) by decide)] at H; exact H
        clear H
        have H := H1
        clear H1
        have H' := Aside0.mk H
        clear H
      rotate_left 1
      all_goals
        have hnbyb459_458 := NB459_458.out
        have hncyb458_459 := NB458_459.out
        have hnbyb459_460 := NB459_460.out
        have hncyb460_459 := NB460_459.out
        have hczyb459_0 : w14.cell? ⟨gb459, 0, none⟩ = some (.int .i64 a1_0) := (blk_cell BK459.out 0).trans rfl
        have hczyb459_1 : w14.cell? ⟨gb459, 1, none⟩ = some (.int .i64 a1_1) := (blk_cell BK459.out 1).trans rfl
        have hfzyb459_0 := blk_frozen BK459.out 0
        have hfzyb459_1 := blk_frozen BK459.out 1
        go_wp2_with (first | ((with_reducible refine gate_callee (f := 40) rfl ?_); refine goesL_ (some 25) rfl rfl Try.func40 (by kernel_rfl) rfl #[.agg #[.int .i64 a1_0, .int .i64 a1_1]] rfl (by (try simp only [List.map_toArray, List.map_cons, List.map_nil]); first | done | rfl | (simp only [List.length_drop, List.length_take]; rfl)) ?_; (with_reducible refine (rialtoref07_Mark.calls a1_0 a1_1 _ _ A15.out).mono ?_); rintro e wx25i0 ⟨rfl, hb⟩; refine ⟨_, rfl, ?_⟩; have n0_ := Aside0.mk (blk_below (g := gb458) (o := .cells #[.int .i64 a0_0, .int .i64 a0_1, .slice A0_2 l0_2.length c0_2, .int .i64 a0_3] 26 (0, 0)) (by (with_reducible repeat (first | refine blk_drewN ?_ _ | refine blk_drew ?_ | refine blk_alloc ?_ _)); exact BK458.out) hb); have n1_ := Aside0.mk (blk_below (g := gb459) (o := .cells #[.int .i64 a1_0, .int .i64 a1_1] 23 (0, 0)) (by (with_reducible repeat (first | refine blk_drewN ?_ _ | refine blk_drew ?_ | refine blk_alloc ?_ _)); exact BK459.out) hb); have n2_ := Aside0.mk (blk_below (g := gb460) (o := .cells #[.int .i64 0, .int .i64 0, .slice none 0 0, .int .i64 0] 26 (0, 0)) (by (with_reducible repeat (first | refine blk_drewN ?_ _ | refine blk_drew ?_ | refine blk_alloc ?_ _)); exact BK460.out) hb); have n3_ := Aside0.mk (below_step (by repeat (first | (with_reducible first | exact HB.out | apply below_alloc | apply pw_below_drewN | apply below_drew1 | refine below_set ?_ GE458.out | refine below_set ?_ GE459.out | refine below_set ?_ GE460.out) | exact HB.out)) hb); clear BK458; clear BK459; clear BK460; clear HB; have BK458 := n0_; have BK459 := n1_; have BK460 := n2_; have HB := n3_; clear n0_ n1_ n2_ n3_; (try clear hb); (try clear hb2); (try clear hk); (try clear hi)) | (go_at_call 45; (with_reducible refine (rialtoref08_within.calls a3 0 1000000 _ _ A17.out).mono ?_); rintro e w' ⟨rfl, ⟨nd, rfl⟩⟩; have hczyb459r2_0 : wx25i0.cell? ⟨gb459, 0, none⟩ = some (.int .i64 a1_0) := (blk_cell BK459.out 0).trans rfl; have hczyb459r2_1 : wx25i0.cell? ⟨gb459, 1, none⟩ = some (.int .i64 a1_1) := (blk_cell BK459.out 1).trans rfl; have hfzyb459r2_0 := blk_frozen BK459.out 0; have hfzyb459r2_1 := blk_frozen BK459.out 1) | (go_at_call 46; (with_reducible refine (rialtoref08_Rows.calls k _ _ l2 a1_1 t464 _ ?side1 ?side2 A19.out).mono ?_); (case side1 => repeat (first | exact (Kd.C_below HR2.out (by repeat (first | (with_reducible first | exact HB.out | apply below_alloc | apply pw_below_drewN | apply below_drew1 | refine below_set ?_ GE458.out | refine below_set ?_ GE459.out | refine below_set ?_ GE460.out) | exact HB.out))) | (with_reducible refine Kd.C_alloc ?_ _) | (with_reducible refine Kd.C_drewN ?_ _) | (with_reducible refine Kd.C_drew ?_))); (case side2 => exact HC2.out); rintro e wyi0 ⟨rfl, hb⟩; have n0_ := Aside0.mk (blk_below (g := gb458) (o := .cells #[.int .i64 a0_0, .int .i64 a0_1, .slice A0_2 l0_2.length c0_2, .int .i64 a0_3] 26 (0, 0)) (by (with_reducible repeat (first | refine blk_drewN ?_ _ | refine blk_drew ?_ | refine blk_alloc ?_ _)); exact BK458.out) hb); have n1_ := Aside0.mk (blk_below (g := gb459) (o := .cells #[.int .i64 a1_0, .int .i64 a1_1] 23 (0, 0)) (by (with_reducible repeat (first | refine blk_drewN ?_ _ | refine blk_drew ?_ | refine blk_alloc ?_ _)); exact BK459.out) hb); have n2_ := Aside0.mk (blk_below (g := gb460) (o := .cells #[.int .i64 0, .int .i64 0, .slice none 0 0, .int .i64 0] 26 (0, 0)) (by (with_reducible repeat (first | refine blk_drewN ?_ _ | refine blk_drew ?_ | refine blk_alloc ?_ _)); exact BK460.out) hb); have n3_ := Aside0.mk (below_step (by repeat (first | (with_reducible first | exact HB.out | apply below_alloc | apply pw_below_drewN | apply below_drew1 | refine below_set ?_ GE458.out | refine below_set ?_ GE459.out | refine below_set ?_ GE460.out) | exact HB.out)) hb); clear BK458; clear BK459; clear BK460; clear HB; have BK458 := n0_; have BK459 := n1_; have BK460 := n2_; have HB := n3_; clear n0_ n1_ n2_ n3_; (try clear hb); (try clear hb2); (try clear hk); (try clear hi)) | (go_at_call 45; (with_reducible refine (rialtoref08_within.calls a3 0 1000000 _ _ A17.out).mono ?_); rintro e w' ⟨rfl, ⟨nd, rfl⟩⟩))
        go_meet
        case rel => (first | exact ⟨_, (!t464), (by first | rfl | (simp; done) | (simp [*]; done)), H', ⟨by first | omega | exact Nat.le_refl _⟩, ⟨by (with_reducible repeat (first | refine blk_drewN ?_ _ | refine blk_drew ?_ | refine blk_alloc ?_ _)); exact BK458.out⟩, ⟨by (with_reducible repeat (first | refine blk_drewN ?_ _ | refine blk_drew ?_ | refine blk_alloc ?_ _)); exact BK459.out⟩, ⟨by (with_reducible repeat (first | refine blk_drewN ?_ _ | refine blk_drew ?_ | refine blk_alloc ?_ _)); exact BK460.out⟩, ⟨by repeat (first | (with_reducible first | exact HB.out | apply below_alloc | apply pw_below_drewN | apply below_drew1 | refine below_set ?_ GE458.out | refine below_set ?_ GE459.out | refine below_set ?_ GE460.out) | exact HB.out)⟩⟩ | exact ⟨_, (true), (by first | rfl | (simp; done) | (simp [*]; done)), H', ⟨by first | omega | exact Nat.le_refl _⟩, ⟨by (with_reducible repeat (first | refine blk_drewN ?_ _ | refine blk_drew ?_ | refine blk_alloc ?_ _)); exact BK458.out⟩, ⟨by (with_reducible repeat (first | refine blk_drewN ?_ _ | refine blk_drew ?_ | refine blk_alloc ?_ _)); exact BK459.out⟩, ⟨by (with_reducible repeat (first | refine blk_drewN ?_ _ | refine blk_drew ?_ | refine blk_alloc ?_ _)); exact BK460.out⟩, ⟨by repeat (first | (with_reducible first | exact HB.out | apply below_alloc | apply pw_below_drewN | apply below_drew1 | refine below_set ?_ GE458.out | refine below_set ?_ GE459.out | refine below_set ?_ GE460.out) | exact HB.out)⟩⟩)
    case rest =>
      clear HC7
      try clear c2
      try clear c6
      try clear c6b0
      try clear c6b1
      try clear hcz13_0
      try clear hcz13_1
      try clear hcz13_2
      try clear hcz13_3
      try clear hfz13_0
      try clear hfz13_1
      try clear hfz13_2
      try clear hfz13_3
      obtain ⟨kq, x38_6, rfl, HA, HJ6, BK458, BK459, BK460, HB⟩ := hcut
      cases kq with
      | zero => exact absurd HA.out (by simp [rialtoref08_Accept.j0])
      | succ kj6 =>
        have H := HA.out
        clear HA
        simp only [rialtoref08_Accept.j0] at H
        by_cases c34 : x38_6 = true
        · subst c34
          have H1 : (some (0, 0, ([] : List (S33)), 0, 0, false, 1)) = some (r1, r2, r3, r4, r5, r6, r7) := by rw [if_pos rfl] at H; exact H
          clear H
          have H := H1
          clear H1
          simp only [Option.some.injEq, Prod.mk.injEq] at H
          obtain ⟨rfl, rfl, rfl, rfl, rfl, rfl, rfl⟩ := H
          have hnb35 := NB460_458.out
          have hnc35 := NB458_460.out
          have hnb36 := NB460_459.out
          have hnc36 := NB459_460.out
          have hcz37_0 : wc.cell? ⟨gb460, 0, none⟩ = some (.int .i64 0) := (blk_cell BK460.out 0).trans rfl
          have hcz37_1 : wc.cell? ⟨gb460, 1, none⟩ = some (.int .i64 0) := (blk_cell BK460.out 1).trans rfl
          have hcz37_2 : wc.cell? ⟨gb460, 2, none⟩ = some (.slice none 0 0) := (blk_cell BK460.out 2).trans rfl
          have hcz37_3 : wc.cell? ⟨gb460, 3, none⟩ = some (.int .i64 0) := (blk_cell BK460.out 3).trans rfl
          have hfz37_0 := blk_frozen BK460.out 0
          have hfz37_1 := blk_frozen BK460.out 1
          have hfz37_2 := blk_frozen BK460.out 2
          have hfz37_3 := blk_frozen BK460.out 3
          go_wp2
          refine bodyPost_ret (results_list (rs := [.cell 8 26, .tmp 9, .tmp 10, .tmp 11]) rfl (by simp) (.cell gb460 26 #[.int .i64 0, .int .i64 0, .slice none 0 0, .int .i64 0] (0, 0) _ rfl (by (with_reducible repeat (first | refine blk_drewN ?_ _ | refine blk_drew ?_ | refine blk_alloc ?_ _)); refine blk_put (cs := #[.int .i64 0, .int .i64 0, .slice none 0 0, .int .i64 0]) ?_ 3 _ rfl; (with_reducible repeat (first | refine blk_drewN ?_ _ | refine blk_drew ?_ | refine blk_alloc ?_ _)); refine blk_put (cs := #[.int .i64 0, .int .i64 0, .slice none 0 0, .int .i64 0]) ?_ 2 _ rfl; (with_reducible repeat (first | refine blk_drewN ?_ _ | refine blk_drew ?_ | refine blk_alloc ?_ _)); refine blk_put (cs := #[.int .i64 0, .int .i64 0, .slice none 0 0, .int .i64 0]) ?_ 1 _ rfl; (with_reducible repeat (first | refine blk_drewN ?_ _ | refine blk_drew ?_ | refine blk_alloc ?_ _)); refine blk_put (cs := #[.int .i64 0, .int .i64 0, .slice none 0 0, .int .i64 0]) ?_ 0 _ rfl; (with_reducible repeat (first | refine blk_drewN ?_ _ | refine blk_drew ?_ | refine blk_alloc ?_ _)); exact BK460.out) Try.underlying26 rfl (by kernel_rfl) (.tmp (.tmp (.tmp .nil))))) rfl ?_
          exact ⟨_, by first | rfl | (simp [errW_none, errW_some] <;> rfl) | (simp [*, errW_none, errW_some] <;> rfl), by first | exact Kd.R_nil _ _ _ _ _ | exact Kd.N_nil _ _ _ _ _ | exact Kd.V_nil _ _ _ _ _ | exact Kd.Q_nil _ _ _ _ _ | exact Kd.S_nil _ _ _ _ _, by repeat (first | (with_reducible first | exact HB.out | apply below_alloc | apply pw_below_drewN | apply below_drew1 | refine below_set ?_ GE458.out | refine below_set ?_ GE459.out | refine below_set ?_ GE460.out) | exact HB.out)⟩
        · replace c34 := Bool.eq_false_iff.mpr c34
          subst c34
          have H1 : ((rialtoref08_Copy.f a0_0 a0_1 l0_2 a0_3).bind fun bt465 => (if a1_0 ≥ a0_0 then ((rialtoref08_TermAt.f kj6 a0_0 a0_1 l0_2 a0_3 a1_0).bind fun bt472 => (if bt472.2 = true then (if bt472.1 = a1_1 then (rialtoref08_Accept.j1 kj6 l2 a3 a0_0 a0_1 l0_2 a0_3 a1_0 a1_1 bt465.1 bt465.2.1 bt465.2.2.1 bt465.2.2.2) else (some (bt465.1, bt465.2.1, bt465.2.2.1, bt465.2.2.2, 0, false, 0))) else (some (bt465.1, bt465.2.1, bt465.2.2.1, bt465.2.2.2, 0, false, 0)))) else (rialtoref08_Accept.j1 kj6 l2 a3 a0_0 a0_1 l0_2 a0_3 a1_0 a1_1 bt465.1 bt465.2.1 bt465.2.2.1 bt465.2.2.2))) = some (r1, r2, r3, r4, r5, r6, r7) := by rw [if_neg (show ¬ (false = true) by decide)] at H; exact H
          clear H
          have H := H1
          clear H1
          replace H := Option.bind_eq_some_iff.mp H
          obtain ⟨⟨t465, t466, t467, t470⟩, A380, H⟩ := H
          replace H : (if a1_0 ≥ a0_0 then ((rialtoref08_TermAt.f kj6 a0_0 a0_1 l0_2 a0_3 a1_0).bind fun bt472 => (if bt472.2 = true then (if bt472.1 = a1_1 then (rialtoref08_Accept.j1 kj6 l2 a3 a0_0 a0_1 l0_2 a0_3 a1_0 a1_1 t465 t466 t467 t470) else (some (t465, t466, t467, t470, 0, false, 0))) else (some (t465, t466, t467, t470, 0, false, 0)))) else (rialtoref08_Accept.j1 kj6 l2 a3 a0_0 a0_1 l0_2 a0_3 a1_0 a1_1 t465 t466 t467 t470)) = some (r1, r2, r3, r4, r5, r6, r7) := H
          have A38 := Aside0.mk A380
          clear A380
          have HC39 := Aside0.mk H
          clear H
          have hnb40 := NB458_459.out
          have hnc40 := NB459_458.out
          have hnb41 := NB458_460.out
          have hnc41 := NB460_458.out
          have hcz42_0 : wc.cell? ⟨gb458, 0, none⟩ = some (.int .i64 a0_0) := (blk_cell BK458.out 0).trans rfl
          have hcz42_1 : wc.cell? ⟨gb458, 1, none⟩ = some (.int .i64 a0_1) := (blk_cell BK458.out 1).trans rfl
          have hcz42_2 : wc.cell? ⟨gb458, 2, none⟩ = some (.slice A0_2 l0_2.length c0_2) := (blk_cell BK458.out 2).trans rfl
          have hcz42_3 : wc.cell? ⟨gb458, 3, none⟩ = some (.int .i64 a0_3) := (blk_cell BK458.out 3).trans rfl
          have hfz42_0 := blk_frozen BK458.out 0
          have hfz42_1 := blk_frozen BK458.out 1
          have hfz42_2 := blk_frozen BK458.out 2
          have hfz42_3 := blk_frozen BK458.out 3
          go_upto_if 47 with (first | ((with_reducible refine gate_callee (f := 13) rfl ?_); refine goesL_ (some 41) rfl rfl Try.func13 (by kernel_rfl) rfl #[.agg #[.int .i64 a0_0, .int .i64 a0_1, .slice A0_2 l0_2.length c0_2, .int .i64 a0_3]] rfl (by (try simp only [List.map_toArray, List.map_cons, List.map_nil]); first | done | rfl | (simp only [List.length_drop, List.length_take]; rfl)) ?_; (with_reducible refine (rialtoref08_Copy.calls a0_0 a0_1 _ _ l0_2 a0_3 t465 t466 t467 t470 _ ?side1 ?side2 A38.out).mono ?_); (case side1 => repeat (first | exact (Kd.C_below HR0_2.out HB.out) | (with_reducible refine Kd.C_alloc ?_ _) | (with_reducible refine Kd.C_drewN ?_ _) | (with_reducible refine Kd.C_drew ?_))); (case side2 => exact HC0_2.out); rintro e w43 ⟨v468, rfl, ho0, hb⟩; refine ⟨_, rfl, ?_⟩; have n0_ := Aside0.mk (Kd.R_lower ho0 (below_size (by repeat (first | (with_reducible first | exact HB.out | apply below_alloc | apply pw_below_drewN | apply below_drew1 | refine below_set ?_ GE458.out | refine below_set ?_ GE459.out | refine below_set ?_ GE460.out) | exact HB.out)))); have n1_ := Aside0.mk (blk_below (g := gb458) (o := .cells #[.int .i64 a0_0, .int .i64 a0_1, .slice A0_2 l0_2.length c0_2, .int .i64 a0_3] 26 (0, 0)) (by (with_reducible repeat (first | refine blk_drewN ?_ _ | refine blk_drew ?_ | refine blk_alloc ?_ _)); exact BK458.out) hb); have n2_ := Aside0.mk (blk_below (g := gb459) (o := .cells #[.int .i64 a1_0, .int .i64 a1_1] 23 (0, 0)) (by (with_reducible repeat (first | refine blk_drewN ?_ _ | refine blk_drew ?_ | refine blk_alloc ?_ _)); exact BK459.out) hb); have n3_ := Aside0.mk (blk_below (g := gb460) (o := .cells #[.int .i64 0, .int .i64 0, .slice none 0 0, .int .i64 0] 26 (0, 0)) (by (with_reducible repeat (first | refine blk_drewN ?_ _ | refine blk_drew ?_ | refine blk_alloc ?_ _)); exact BK460.out) hb); have n4_ := Aside0.mk (below_step (by repeat (first | (with_reducible first | exact HB.out | apply below_alloc | apply pw_below_drewN | apply below_drew1 | refine below_set ?_ GE458.out | refine below_set ?_ GE459.out | refine below_set ?_ GE460.out) | exact HB.out)) hb); clear BK458; clear BK459; clear BK460; clear HB; have HO469 := n0_; have BK458 := n1_; have BK459 := n2_; have BK460 := n3_; have HB := n4_; clear n0_ n1_ n2_ n3_ n4_; (try clear hb); (try clear hb2); (try clear hk); (try clear hi); (try clear ho0)) | ((with_reducible refine gate_dst (N := 12) rfl ?_); refine box_event ?hg (N := 12) ?hd (cs := #[.int .i64 0, .int .i64 0, .slice none 0 0, .int .i64 0]) (t := 26) ?hr ?_; (case hd => rfl); (case hg => rfl); (case hr => first | (go_simp; done) | (go_simp; rfl)); intro gb471 hg w44 hbox hb; have n0_ := Aside0.mk (Kd.R_below (by (with_reducible repeat (first | apply Kd.R_alloc | apply Kd.R_drewN | apply Kd.R_drew)); exact HO469.out) hb); have n1_ := Aside0.mk (blk_below (g := gb458) (o := .cells #[.int .i64 a0_0, .int .i64 a0_1, .slice A0_2 l0_2.length c0_2, .int .i64 a0_3] 26 (0, 0)) (by (with_reducible repeat (first | refine blk_drewN ?_ _ | refine blk_drew ?_ | refine blk_alloc ?_ _)); exact BK458.out) hb); have n2_ := Aside0.mk (blk_below (g := gb459) (o := .cells #[.int .i64 a1_0, .int .i64 a1_1] 23 (0, 0)) (by (with_reducible repeat (first | refine blk_drewN ?_ _ | refine blk_drew ?_ | refine blk_alloc ?_ _)); exact BK459.out) hb); have n3_ := Aside0.mk (blk_below (g := gb460) (o := .cells #[.int .i64 0, .int .i64 0, .slice none 0 0, .int .i64 0] 26 (0, 0)) (by (with_reducible repeat (first | refine blk_drewN ?_ _ | refine blk_drew ?_ | refine blk_alloc ?_ _)); exact BK460.out) hb); have n4_ := Aside0.mk (below_step (by repeat (first | (with_reducible first | exact HB.out | apply below_alloc | apply pw_below_drewN | apply below_drew1 | refine below_set ?_ GE458.out | refine below_set ?_ GE459.out | refine below_set ?_ GE460.out) | exact HB.out)) hb); have n5_ := Aside0.mk (hbox); have n6_ := Aside0.mk ((by rw [hg]; exact (below_size (by repeat (first | (with_reducible first | exact HB.out | apply below_alloc | apply pw_below_drewN | apply below_drew1 | refine below_set ?_ GE458.out | refine below_set ?_ GE459.out | refine below_set ?_ GE460.out) | exact HB.out))) : w.heap.size ≤ gb471)); have n7_ := Aside0.mk ((by rw [hg]; exact (below_size (by repeat (first | (with_reducible first | exact HB.out | apply below_alloc | apply pw_below_drewN | apply below_drew1 | refine below_set ?_ GE458.out | refine below_set ?_ GE459.out | refine below_set ?_ GE460.out) | exact HB.out))) : w.heap.size ≤ gb471)); have n8_ := Aside0.mk ((by rw [hg]; exact Nat.ne_of_lt (blk_lt (g := gb458) (o := .cells #[.int .i64 a0_0, .int .i64 a0_1, .slice A0_2 l0_2.length c0_2, .int .i64 a0_3] 26 (0, 0)) (by (with_reducible repeat (first | refine blk_drewN ?_ _ | refine blk_drew ?_ | refine blk_alloc ?_ _)); exact BK458.out)) : gb458 ≠ gb471)); have n9_ := Aside0.mk ((by rw [hg]; exact Nat.ne_of_gt (blk_lt (g := gb458) (o := .cells #[.int .i64 a0_0, .int .i64 a0_1, .slice A0_2 l0_2.length c0_2, .int .i64 a0_3] 26 (0, 0)) (by (with_reducible repeat (first | refine blk_drewN ?_ _ | refine blk_drew ?_ | refine blk_alloc ?_ _)); exact BK458.out)) : gb471 ≠ gb458)); have n10_ := Aside0.mk ((by rw [hg]; exact Nat.ne_of_lt (blk_lt (g := gb459) (o := .cells #[.int .i64 a1_0, .int .i64 a1_1] 23 (0, 0)) (by (with_reducible repeat (first | refine blk_drewN ?_ _ | refine blk_drew ?_ | refine blk_alloc ?_ _)); exact BK459.out)) : gb459 ≠ gb471)); have n11_ := Aside0.mk ((by rw [hg]; exact Nat.ne_of_gt (blk_lt (g := gb459) (o := .cells #[.int .i64 a1_0, .int .i64 a1_1] 23 (0, 0)) (by (with_reducible repeat (first | refine blk_drewN ?_ _ | refine blk_drew ?_ | refine blk_alloc ?_ _)); exact BK459.out)) : gb471 ≠ gb459)); have n12_ := Aside0.mk ((by rw [hg]; exact Nat.ne_of_lt (blk_lt (g := gb460) (o := .cells #[.int .i64 0, .int .i64 0, .slice none 0 0, .int .i64 0] 26 (0, 0)) (by (with_reducible repeat (first | refine blk_drewN ?_ _ | refine blk_drew ?_ | refine blk_alloc ?_ _)); exact BK460.out)) : gb460 ≠ gb471)); have n13_ := Aside0.mk ((by rw [hg]; exact Nat.ne_of_gt (blk_lt (g := gb460) (o := .cells #[.int .i64 0, .int .i64 0, .slice none 0 0, .int .i64 0] 26 (0, 0)) (by (with_reducible repeat (first | refine blk_drewN ?_ _ | refine blk_drew ?_ | refine blk_alloc ?_ _)); exact BK460.out)) : gb471 ≠ gb460)); clear HO469; clear BK458; clear BK459; clear BK460; clear HB; have HO469 := n0_; have BK458 := n1_; have BK459 := n2_; have BK460 := n3_; have HB := n4_; have BK471 := n5_; have GW471 := n6_; have GE471 := n7_; have NB458_471 := n8_; have NB471_458 := n9_; have NB459_471 := n10_; have NB471_459 := n11_; have NB460_471 := n12_; have NB471_460 := n13_; clear n0_ n1_ n2_ n3_ n4_ n5_ n6_ n7_ n8_ n9_ n10_ n11_ n12_ n13_; clear hb hbox hg; have hnb45 := NB471_458.out; have hnc45 := NB458_471.out; have hnb46 := NB471_459.out; have hnc46 := NB459_471.out; have hnb47 := NB471_460.out; have hnc47 := NB460_471.out; have hcz48_0 : w44.cell? ⟨gb471, 0, none⟩ = some (.int .i64 0) := (blk_cell BK471.out 0).trans rfl; have hcz48_1 : w44.cell? ⟨gb471, 1, none⟩ = some (.int .i64 0) := (blk_cell BK471.out 1).trans rfl; have hcz48_2 : w44.cell? ⟨gb471, 2, none⟩ = some (.slice none 0 0) := (blk_cell BK471.out 2).trans rfl; have hcz48_3 : w44.cell? ⟨gb471, 3, none⟩ = some (.int .i64 0) := (blk_cell BK471.out 3).trans rfl; have hfz48_0 := blk_frozen BK471.out 0; have hfz48_1 := blk_frozen BK471.out 1; have hfz48_2 := blk_frozen BK471.out 2; have hfz48_3 := blk_frozen BK471.out 3; obtain ⟨Ao49, co49, eo49⟩ := Kd.R_slice HO469.out; subst eo49; have hnb50 := NB459_460.out; have hnc50 := NB460_459.out; have hcz51_0 : w44.cell? ⟨gb459, 0, none⟩ = some (.int .i64 a1_0) := (blk_cell BK459.out 0).trans rfl; have hcz51_1 : w44.cell? ⟨gb459, 1, none⟩ = some (.int .i64 a1_1) := (blk_cell BK459.out 1).trans rfl; have hfz51_0 := blk_frozen BK459.out 0; have hfz51_1 := blk_frozen BK459.out 1; have hcz52_0 : w44.cell? ⟨gb458, 0, none⟩ = some (.int .i64 a0_0) := (blk_cell BK458.out 0).trans rfl; have hcz52_1 : w44.cell? ⟨gb458, 1, none⟩ = some (.int .i64 a0_1) := (blk_cell BK458.out 1).trans rfl; have hcz52_2 : w44.cell? ⟨gb458, 2, none⟩ = some (.slice A0_2 l0_2.length c0_2) := (blk_cell BK458.out 2).trans rfl; have hcz52_3 : w44.cell? ⟨gb458, 3, none⟩ = some (.int .i64 a0_3) := (blk_cell BK458.out 3).trans rfl; have hfz52_0 := blk_frozen BK458.out 0; have hfz52_1 := blk_frozen BK458.out 1; have hfz52_2 := blk_frozen BK458.out 2; have hfz52_3 := blk_frozen BK458.out 3))
          (try simp only [Act.put, List.setIfInBounds_toArray, List.set_cons_zero, List.set_cons_succ])
          go_cut [] (fun wc => ∃ (kq : Nat) (x461000_38 : Int) (x461001_38 : Int) (x461003_38 : Int), Aside0 (rialtoref08_Accept.j1 kq l2 a3 a0_0 a0_1 l0_2 a0_3 a1_0 a1_1 t465 t466 t467 t470 = some (r1, r2, r3, r4, r5, r6, r7)) ∧ Aside0 (kq ≤ kj6) ∧ Aside0 (Kd.R k33 33 wc w.heap.size (fun _ => True) (.slice Ao49 t467.length co49) t467) ∧ Aside0 (wc.heap[gb458]? = some (.cells #[.int .i64 a0_0, .int .i64 a0_1, (.slice A0_2 l0_2.length c0_2), .int .i64 a0_3] 26 (0, 0))) ∧ Aside0 (wc.heap[gb459]? = some (.cells #[.int .i64 a1_0, .int .i64 a1_1] 23 (0, 0))) ∧ Aside0 (wc.heap[gb460]? = some (.cells #[.int .i64 x461000_38, .int .i64 x461001_38, (.slice none 0 0), .int .i64 x461003_38] 26 (0, 0))) ∧ Aside0 (wc.heap[gb471]? = some (.cells #[.int .i64 t465, .int .i64 t466, (.slice Ao49 t467.length co49), .int .i64 t470] 26 (0, 0))) ∧ Aside0 (Below w.heap.size w wc))
          case first =>
            have H := HC39.out
            clear HC39
            by_cases c53 : a1_0 ≥ a0_0
            focus
              rw [if_pos c53] at H
              have c53b0 : decide (a0_0 ≤ a1_0) = true := decide_eq_true c53
              clear c53
              (first | rw [c53b0] | (simp only [i64_w, i32_w]; rw [c53b0]) | skip)
              replace H := Option.bind_eq_some_iff.mp H
              obtain ⟨⟨t472, t473⟩, A540, H⟩ := H
              replace H : (if t473 = true then (if t472 = a1_1 then (rialtoref08_Accept.j1 kj6 l2 a3 a0_0 a0_1 l0_2 a0_3 a1_0 a1_1 t465 t466 t467 t470) else (some (t465, t466, t467, t470, 0, false, 0))) else (some (t465, t466, t467, t470, 0, false, 0))) = some (r1, r2, r3, r4, r5, r6, r7) := H
              have A54 := Aside0.mk A540
              clear A540
              by_cases c55 : t473 = true
              focus
                subst c55
                have H1 : (if t472 = a1_1 then (rialtoref08_Accept.j1 kj6 l2 a3 a0_0 a0_1 l0_2 a0_3 a1_0 a1_1 t465 t466 t467 t470) else (some (t465, t466, t467, t470, 0, false, 0))) = some (r1, r2, r3, r4, r5, r6, r7) := by rw [if_pos rfl] at H; exact H
                clear H
                have H := H1
                clear H1
                by_cases c56 : t472 = a1_1
                focus
                  rw [if_pos c56] at H
                  have c56b0 : (t472 == a1_1) = true := beq_iff_eq.mpr c56
                  have c56b1 : (t472 != a1_1) = false := bne_eq_false_iff_eq.mpr c56
                  clear c56
                  have H' := Aside0.mk H
                  clear H
                rotate_left 1
                focus
                  rw [if_neg c56] at H
                  have c56b0 : (t472 == a1_1) = false := beq_eq_false_iff_ne.mpr c56
                  have c56b1 : (t472 != a1_1) = true := bne_iff_ne.mpr c56
                rotate_left 1
              rotate_left 2
              focus
                replace c55 := Bool.eq_false_iff.mpr c55
                subst c55
                have H1 : (some (t465, t466, t467, t470, 0, false, 0)) = some (r1, r2, r3, r4, r5, r6, r7) := by rw [if_neg (show ¬ (false = true) by decide)] at H; exact H
                clear H
                have H := H1
                clear H1
              rotate_left 1
            rotate_left 3
            focus
              rw [if_neg c53] at H
              have c53b0 : decide (a0_0 ≤ a1_0) = false := decide_eq_false c53
              clear c53
              (first | rw [c53b0] | (simp only [i64_w, i32_w]; rw [c53b0]) | skip)
              have H' := Aside0.mk H
              clear H
            rotate_left 1
            focus
              have hnbyb458_459 := NB458_459.out
              have hncyb459_458 := NB459_458.out
              have hnbyb458_460 := NB458_460.out
              have hncyb460_458 := NB460_458.out
              have hnbyb458_471 := NB458_471.out
              have hncyb471_458 := NB471_458.out
              have hczyb458_0 : w44.cell? ⟨gb458, 0, none⟩ = some (.int .i64 a0_0) := (blk_cell BK458.out 0).trans rfl
              have hczyb458_1 : w44.cell? ⟨gb458, 1, none⟩ = some (.int .i64 a0_1) := (blk_cell BK458.out 1).trans rfl
              have hczyb458_2 : w44.cell? ⟨gb458, 2, none⟩ = some (.slice A0_2 l0_2.length c0_2) := (blk_cell BK458.out 2).trans rfl
              have hczyb458_3 : w44.cell? ⟨gb458, 3, none⟩ = some (.int .i64 a0_3) := (blk_cell BK458.out 3).trans rfl
              have hfzyb458_0 := blk_frozen BK458.out 0
              have hfzyb458_1 := blk_frozen BK458.out 1
              have hfzyb458_2 := blk_frozen BK458.out 2
              have hfzyb458_3 := blk_frozen BK458.out 3
              have hnbyb459_460 := NB459_460.out
              have hncyb460_459 := NB460_459.out
              have hnbyb459_471 := NB459_471.out
              have hncyb471_459 := NB471_459.out
              have hczyb459_0 : w44.cell? ⟨gb459, 0, none⟩ = some (.int .i64 a1_0) := (blk_cell BK459.out 0).trans rfl
              have hczyb459_1 : w44.cell? ⟨gb459, 1, none⟩ = some (.int .i64 a1_1) := (blk_cell BK459.out 1).trans rfl
              have hfzyb459_0 := blk_frozen BK459.out 0
              have hfzyb459_1 := blk_frozen BK459.out 1
              go_wp2_with (first | ((with_reducible refine gate_callee (f := 28) rfl ?_); refine goesL_ (some 52) rfl rfl Try.func28 (by kernel_rfl) rfl #[.agg #[.int .i64 a0_0, .int .i64 a0_1, .slice A0_2 l0_2.length c0_2, .int .i64 a0_3], .int .i64 a1_0] rfl (by (try simp only [List.map_toArray, List.map_cons, List.map_nil]); first | done | rfl | (simp only [List.length_drop, List.length_take]; rfl)) ?_; (with_reducible refine (rialtoref08_TermAt.calls kj6 a0_0 a0_1 _ _ l0_2 a0_3 a1_0 t472 _ _ ?side1 ?side2 A54.out).mono ?_); (case side1 => exact Kd.C_below HR0_2.out (by repeat (first | (with_reducible first | exact HB.out | apply below_alloc | apply pw_below_drewN | apply below_drew1 | refine below_set ?_ GE458.out | refine below_set ?_ GE459.out | refine below_set ?_ GE460.out | refine below_set ?_ GE471.out) | exact HB.out))); (case side2 => exact HC0_2.out); rintro e wx52i0 ⟨rfl, hb⟩; refine ⟨_, rfl, ?_⟩; have n0_ := Aside0.mk (Kd.R_below (by (with_reducible repeat (first | apply Kd.R_alloc | apply Kd.R_drewN | apply Kd.R_drew)); exact (Kd.R_mono (Kd.R_far (p := ⟨gb471, 3, none⟩) (Kd.R_far (p := ⟨gb471, 2, none⟩) (Kd.R_far (p := ⟨gb471, 1, none⟩) (Kd.R_far (p := ⟨gb471, 0, none⟩) (Kd.R_types HO469.out BK471.out (by decide)) (fun _ hk => hk.2) (.int .i64 t465)) (fun _ hk => hk.2) (.int .i64 t466)) (fun _ hk => hk.2) (.slice Ao49 t467.length co49)) (fun _ hk => hk.2) (.int .i64 t470)) (fun _ h_ => h_.1))) hb); have n1_ := Aside0.mk (blk_below (g := gb458) (o := .cells #[.int .i64 a0_0, .int .i64 a0_1, .slice A0_2 l0_2.length c0_2, .int .i64 a0_3] 26 (0, 0)) (by (with_reducible repeat (first | refine blk_drewN ?_ _ | refine blk_drew ?_ | refine blk_alloc ?_ _)); refine blk_far ?_ NB458_471.out _; (with_reducible repeat (first | refine blk_drewN ?_ _ | refine blk_drew ?_ | refine blk_alloc ?_ _)); refine blk_far ?_ NB458_471.out _; (with_reducible repeat (first | refine blk_drewN ?_ _ | refine blk_drew ?_ | refine blk_alloc ?_ _)); refine blk_far ?_ NB458_471.out _; (with_reducible repeat (first | refine blk_drewN ?_ _ | refine blk_drew ?_ | refine blk_alloc ?_ _)); refine blk_far ?_ NB458_471.out _; (with_reducible repeat (first | refine blk_drewN ?_ _ | refine blk_drew ?_ | refine blk_alloc ?_ _)); exact BK458.out) hb); have n2_ := Aside0.mk (blk_below (g := gb459) (o := .cells #[.int .i64 a1_0, .int .i64 a1_1] 23 (0, 0)) (by (with_reducible repeat (first | refine blk_drewN ?_ _ | refine blk_drew ?_ | refine blk_alloc ?_ _)); refine blk_far ?_ NB459_471.out _; (with_reducible repeat (first | refine blk_drewN ?_ _ | refine blk_drew ?_ | refine blk_alloc ?_ _)); refine blk_far ?_ NB459_471.out _; (with_reducible repeat (first | refine blk_drewN ?_ _ | refine blk_drew ?_ | refine blk_alloc ?_ _)); refine blk_far ?_ NB459_471.out _; (with_reducible repeat (first | refine blk_drewN ?_ _ | refine blk_drew ?_ | refine blk_alloc ?_ _)); refine blk_far ?_ NB459_471.out _; (with_reducible repeat (first | refine blk_drewN ?_ _ | refine blk_drew ?_ | refine blk_alloc ?_ _)); exact BK459.out) hb); have n3_ := Aside0.mk (blk_below (g := gb460) (o := .cells #[.int .i64 0, .int .i64 0, .slice none 0 0, .int .i64 0] 26 (0, 0)) (by (with_reducible repeat (first | refine blk_drewN ?_ _ | refine blk_drew ?_ | refine blk_alloc ?_ _)); refine blk_far ?_ NB460_471.out _; (with_reducible repeat (first | refine blk_drewN ?_ _ | refine blk_drew ?_ | refine blk_alloc ?_ _)); refine blk_far ?_ NB460_471.out _; (with_reducible repeat (first | refine blk_drewN ?_ _ | refine blk_drew ?_ | refine blk_alloc ?_ _)); refine blk_far ?_ NB460_471.out _; (with_reducible repeat (first | refine blk_drewN ?_ _ | refine blk_drew ?_ | refine blk_alloc ?_ _)); refine blk_far ?_ NB460_471.out _; (with_reducible repeat (first | refine blk_drewN ?_ _ | refine blk_drew ?_ | refine blk_alloc ?_ _)); exact BK460.out) hb); have n4_ := Aside0.mk (blk_below (g := gb471) (o := .cells #[.int .i64 t465, .int .i64 t466, .slice Ao49 t467.length co49, .int .i64 t470] 26 (0, 0)) (by (with_reducible repeat (first | refine blk_drewN ?_ _ | refine blk_drew ?_ | refine blk_alloc ?_ _)); refine blk_put (cs := #[.int .i64 t465, .int .i64 t466, .slice Ao49 t467.length co49, .int .i64 0]) ?_ 3 _ rfl; (with_reducible repeat (first | refine blk_drewN ?_ _ | refine blk_drew ?_ | refine blk_alloc ?_ _)); refine blk_put (cs := #[.int .i64 t465, .int .i64 t466, .slice none 0 0, .int .i64 0]) ?_ 2 _ rfl; (with_reducible repeat (first | refine blk_drewN ?_ _ | refine blk_drew ?_ | refine blk_alloc ?_ _)); refine blk_put (cs := #[.int .i64 t465, .int .i64 0, .slice none 0 0, .int .i64 0]) ?_ 1 _ rfl; (with_reducible repeat (first | refine blk_drewN ?_ _ | refine blk_drew ?_ | refine blk_alloc ?_ _)); refine blk_put (cs := #[.int .i64 0, .int .i64 0, .slice none 0 0, .int .i64 0]) ?_ 0 _ rfl; (with_reducible repeat (first | refine blk_drewN ?_ _ | refine blk_drew ?_ | refine blk_alloc ?_ _)); exact BK471.out) hb); have n5_ := Aside0.mk (below_step (by repeat (first | (with_reducible first | exact HB.out | apply below_alloc | apply pw_below_drewN | apply below_drew1 | refine below_set ?_ GE458.out | refine below_set ?_ GE459.out | refine below_set ?_ GE460.out | refine below_set ?_ GE471.out) | exact HB.out)) hb); clear HO469; clear BK458; clear BK459; clear BK460; clear BK471; clear HB; have HO469 := n0_; have BK458 := n1_; have BK459 := n2_; have BK460 := n3_; have BK471 := n4_; have HB := n5_; clear n0_ n1_ n2_ n3_ n4_ n5_; (try clear hb); (try clear hb2); (try clear hk); (try clear hi); have hczx52b459_0 : wx52i0.cell? ⟨gb459, 0, none⟩ = some (.int .i64 a1_0) := (blk_cell BK459.out 0).trans rfl; have hczx52b459_1 : wx52i0.cell? ⟨gb459, 1, none⟩ = some (.int .i64 a1_1) := (blk_cell BK459.out 1).trans rfl; have hfzx52b459_0 := blk_frozen BK459.out 0; have hfzx52b459_1 := blk_frozen BK459.out 1))
              go_meet
              case rel => exact ⟨_, (0), (0), (0), H', ⟨by have := HJ6.out; first | omega | exact Nat.le_refl _⟩, ⟨by (with_reducible repeat (first | apply Kd.R_alloc | apply Kd.R_drewN | apply Kd.R_drew)); exact HO469.out⟩, ⟨by (with_reducible repeat (first | refine blk_drewN ?_ _ | refine blk_drew ?_ | refine blk_alloc ?_ _)); exact BK458.out⟩, ⟨by (with_reducible repeat (first | refine blk_drewN ?_ _ | refine blk_drew ?_ | refine blk_alloc ?_ _)); exact BK459.out⟩, ⟨by (with_reducible repeat (first | refine blk_drewN ?_ _ | refine blk_drew ?_ | refine blk_alloc ?_ _)); exact BK460.out⟩, ⟨by (with_reducible repeat (first | refine blk_drewN ?_ _ | refine blk_drew ?_ | refine blk_alloc ?_ _)); exact BK471.out⟩, ⟨by repeat (first | (with_reducible first | exact HB.out | apply below_alloc | apply pw_below_drewN | apply below_drew1 | refine below_set ?_ GE458.out | refine below_set ?_ GE459.out | refine below_set ?_ GE460.out | refine below_set ?_ GE471.out) | exact HB.out)⟩⟩
            iterate 2
              focus
                simp only [Option.some.injEq, Prod.mk.injEq] at H
                obtain ⟨rfl, rfl, rfl, rfl, rfl, rfl, rfl⟩ := H
                have hnbyb458_459 := NB458_459.out
                have hncyb459_458 := NB459_458.out
                have hnbyb458_460 := NB458_460.out
                have hncyb460_458 := NB460_458.out
                have hnbyb458_471 := NB458_471.out
                have hncyb471_458 := NB471_458.out
                have hczyb458_0 : w44.cell? ⟨gb458, 0, none⟩ = some (.int .i64 a0_0) := (blk_cell BK458.out 0).trans rfl
                have hczyb458_1 : w44.cell? ⟨gb458, 1, none⟩ = some (.int .i64 a0_1) := (blk_cell BK458.out 1).trans rfl
                have hczyb458_2 : w44.cell? ⟨gb458, 2, none⟩ = some (.slice A0_2 l0_2.length c0_2) := (blk_cell BK458.out 2).trans rfl
                have hczyb458_3 : w44.cell? ⟨gb458, 3, none⟩ = some (.int .i64 a0_3) := (blk_cell BK458.out 3).trans rfl
                have hfzyb458_0 := blk_frozen BK458.out 0
                have hfzyb458_1 := blk_frozen BK458.out 1
                have hfzyb458_2 := blk_frozen BK458.out 2
                have hfzyb458_3 := blk_frozen BK458.out 3
                have hnbyb459_460 := NB459_460.out
                have hncyb460_459 := NB460_459.out
                have hnbyb459_471 := NB459_471.out
                have hncyb471_459 := NB471_459.out
                have hczyb459_0 : w44.cell? ⟨gb459, 0, none⟩ = some (.int .i64 a1_0) := (blk_cell BK459.out 0).trans rfl
                have hczyb459_1 : w44.cell? ⟨gb459, 1, none⟩ = some (.int .i64 a1_1) := (blk_cell BK459.out 1).trans rfl
                have hfzyb459_0 := blk_frozen BK459.out 0
                have hfzyb459_1 := blk_frozen BK459.out 1
                go_wp2_with (first | ((with_reducible refine gate_callee (f := 28) rfl ?_); refine goesL_ (some 52) rfl rfl Try.func28 (by kernel_rfl) rfl #[.agg #[.int .i64 a0_0, .int .i64 a0_1, .slice A0_2 l0_2.length c0_2, .int .i64 a0_3], .int .i64 a1_0] rfl (by (try simp only [List.map_toArray, List.map_cons, List.map_nil]); first | done | rfl | (simp only [List.length_drop, List.length_take]; rfl)) ?_; (with_reducible refine (rialtoref08_TermAt.calls kj6 a0_0 a0_1 _ _ l0_2 a0_3 a1_0 t472 _ _ ?side1 ?side2 A54.out).mono ?_); (case side1 => exact Kd.C_below HR0_2.out (by repeat (first | (with_reducible first | exact HB.out | apply below_alloc | apply pw_below_drewN | apply below_drew1 | refine below_set ?_ GE458.out | refine below_set ?_ GE459.out | refine below_set ?_ GE460.out | refine below_set ?_ GE471.out) | exact HB.out))); (case side2 => exact HC0_2.out); rintro e wx52i0 ⟨rfl, hb⟩; refine ⟨_, rfl, ?_⟩; have n0_ := Aside0.mk (Kd.R_below (by (with_reducible repeat (first | apply Kd.R_alloc | apply Kd.R_drewN | apply Kd.R_drew)); exact (Kd.R_mono (Kd.R_far (p := ⟨gb471, 3, none⟩) (Kd.R_far (p := ⟨gb471, 2, none⟩) (Kd.R_far (p := ⟨gb471, 1, none⟩) (Kd.R_far (p := ⟨gb471, 0, none⟩) (Kd.R_types HO469.out BK471.out (by decide)) (fun _ hk => hk.2) (.int .i64 t465)) (fun _ hk => hk.2) (.int .i64 t466)) (fun _ hk => hk.2) (.slice Ao49 t467.length co49)) (fun _ hk => hk.2) (.int .i64 t470)) (fun _ h_ => h_.1))) hb); have n1_ := Aside0.mk (blk_below (g := gb458) (o := .cells #[.int .i64 a0_0, .int .i64 a0_1, .slice A0_2 l0_2.length c0_2, .int .i64 a0_3] 26 (0, 0)) (by (with_reducible repeat (first | refine blk_drewN ?_ _ | refine blk_drew ?_ | refine blk_alloc ?_ _)); refine blk_far ?_ NB458_471.out _; (with_reducible repeat (first | refine blk_drewN ?_ _ | refine blk_drew ?_ | refine blk_alloc ?_ _)); refine blk_far ?_ NB458_471.out _; (with_reducible repeat (first | refine blk_drewN ?_ _ | refine blk_drew ?_ | refine blk_alloc ?_ _)); refine blk_far ?_ NB458_471.out _; (with_reducible repeat (first | refine blk_drewN ?_ _ | refine blk_drew ?_ | refine blk_alloc ?_ _)); refine blk_far ?_ NB458_471.out _; (with_reducible repeat (first | refine blk_drewN ?_ _ | refine blk_drew ?_ | refine blk_alloc ?_ _)); exact BK458.out) hb); have n2_ := Aside0.mk (blk_below (g := gb459) (o := .cells #[.int .i64 a1_0, .int .i64 a1_1] 23 (0, 0)) (by (with_reducible repeat (first | refine blk_drewN ?_ _ | refine blk_drew ?_ | refine blk_alloc ?_ _)); refine blk_far ?_ NB459_471.out _; (with_reducible repeat (first | refine blk_drewN ?_ _ | refine blk_drew ?_ | refine blk_alloc ?_ _)); refine blk_far ?_ NB459_471.out _; (with_reducible repeat (first | refine blk_drewN ?_ _ | refine blk_drew ?_ | refine blk_alloc ?_ _)); refine blk_far ?_ NB459_471.out _; (with_reducible repeat (first | refine blk_drewN ?_ _ | refine blk_drew ?_ | refine blk_alloc ?_ _)); refine blk_far ?_ NB459_471.out _; (with_reducible repeat (first | refine blk_drewN ?_ _ | refine blk_drew ?_ | refine blk_alloc ?_ _)); exact BK459.out) hb); have n3_ := Aside0.mk (blk_below (g := gb460) (o := .cells #[.int .i64 0, .int .i64 0, .slice none 0 0, .int .i64 0] 26 (0, 0)) (by (with_reducible repeat (first | refine blk_drewN ?_ _ | refine blk_drew ?_ | refine blk_alloc ?_ _)); refine blk_far ?_ NB460_471.out _; (with_reducible repeat (first | refine blk_drewN ?_ _ | refine blk_drew ?_ | refine blk_alloc ?_ _)); refine blk_far ?_ NB460_471.out _; (with_reducible repeat (first | refine blk_drewN ?_ _ | refine blk_drew ?_ | refine blk_alloc ?_ _)); refine blk_far ?_ NB460_471.out _; (with_reducible repeat (first | refine blk_drewN ?_ _ | refine blk_drew ?_ | refine blk_alloc ?_ _)); refine blk_far ?_ NB460_471.out _; (with_reducible repeat (first | refine blk_drewN ?_ _ | refine blk_drew ?_ | refine blk_alloc ?_ _)); exact BK460.out) hb); have n4_ := Aside0.mk (blk_below (g := gb471) (o := .cells #[.int .i64 t465, .int .i64 t466, .slice Ao49 t467.length co49, .int .i64 t470] 26 (0, 0)) (by (with_reducible repeat (first | refine blk_drewN ?_ _ | refine blk_drew ?_ | refine blk_alloc ?_ _)); refine blk_put (cs := #[.int .i64 t465, .int .i64 t466, .slice Ao49 t467.length co49, .int .i64 0]) ?_ 3 _ rfl; (with_reducible repeat (first | refine blk_drewN ?_ _ | refine blk_drew ?_ | refine blk_alloc ?_ _)); refine blk_put (cs := #[.int .i64 t465, .int .i64 t466, .slice none 0 0, .int .i64 0]) ?_ 2 _ rfl; (with_reducible repeat (first | refine blk_drewN ?_ _ | refine blk_drew ?_ | refine blk_alloc ?_ _)); refine blk_put (cs := #[.int .i64 t465, .int .i64 0, .slice none 0 0, .int .i64 0]) ?_ 1 _ rfl; (with_reducible repeat (first | refine blk_drewN ?_ _ | refine blk_drew ?_ | refine blk_alloc ?_ _)); refine blk_put (cs := #[.int .i64 0, .int .i64 0, .slice none 0 0, .int .i64 0]) ?_ 0 _ rfl; (with_reducible repeat (first | refine blk_drewN ?_ _ | refine blk_drew ?_ | refine blk_alloc ?_ _)); exact BK471.out) hb); have n5_ := Aside0.mk (below_step (by repeat (first | (with_reducible first | exact HB.out | apply below_alloc | apply pw_below_drewN | apply below_drew1 | refine below_set ?_ GE458.out | refine below_set ?_ GE459.out | refine below_set ?_ GE460.out | refine below_set ?_ GE471.out) | exact HB.out)) hb); clear HO469; clear BK458; clear BK459; clear BK460; clear BK471; clear HB; have HO469 := n0_; have BK458 := n1_; have BK459 := n2_; have BK460 := n3_; have BK471 := n4_; have HB := n5_; clear n0_ n1_ n2_ n3_ n4_ n5_; (try clear hb); (try clear hb2); (try clear hk); (try clear hi); (try have hczx52b459_0 : wx52i0.cell? ⟨gb459, 0, none⟩ = some (.int .i64 a1_0) := (blk_cell BK459.out 0).trans rfl); (try have hczx52b459_1 : wx52i0.cell? ⟨gb459, 1, none⟩ = some (.int .i64 a1_1) := (blk_cell BK459.out 1).trans rfl); (try have hfzx52b459_0 := blk_frozen BK459.out 0); (try have hfzx52b459_1 := blk_frozen BK459.out 1); have hnbx52b471_460 := NB471_460.out; have hncx52b460_471 := NB460_471.out; have hczx52b471_0 : wx52i0.cell? ⟨gb471, 0, none⟩ = some (.int .i64 t465) := (blk_cell BK471.out 0).trans rfl; have hczx52b471_1 : wx52i0.cell? ⟨gb471, 1, none⟩ = some (.int .i64 t466) := (blk_cell BK471.out 1).trans rfl; have hczx52b471_2 : wx52i0.cell? ⟨gb471, 2, none⟩ = some (.slice Ao49 t467.length co49) := (blk_cell BK471.out 2).trans rfl; have hczx52b471_3 : wx52i0.cell? ⟨gb471, 3, none⟩ = some (.int .i64 t470) := (blk_cell BK471.out 3).trans rfl; have hfzx52b471_0 := blk_frozen BK471.out 0; have hfzx52b471_1 := blk_frozen BK471.out 1; have hfzx52b471_2 := blk_frozen BK471.out 2; have hfzx52b471_3 := blk_frozen BK471.out 3; have hczx52b460_0 : wx52i0.cell? ⟨gb460, 0, none⟩ = some (.int .i64 0) := (blk_cell BK460.out 0).trans rfl; have hczx52b460_1 : wx52i0.cell? ⟨gb460, 1, none⟩ = some (.int .i64 0) := (blk_cell BK460.out 1).trans rfl; have hczx52b460_2 : wx52i0.cell? ⟨gb460, 2, none⟩ = some (.slice none 0 0) := (blk_cell BK460.out 2).trans rfl; have hczx52b460_3 : wx52i0.cell? ⟨gb460, 3, none⟩ = some (.int .i64 0) := (blk_cell BK460.out 3).trans rfl; have hfzx52b460_0 := blk_frozen BK460.out 0; have hfzx52b460_1 := blk_frozen BK460.out 1; have hfzx52b460_2 := blk_frozen BK460.out 2; have hfzx52b460_3 := blk_frozen BK460.out 3))
                refine bodyPost_ret (results_list (rs := [.cell 8 26, .tmp 9, .tmp 10, .tmp 11]) rfl (by simp) (.cell gb460 26 #[.int .i64 t465, .int .i64 t466, .slice Ao49 t467.length co49, .int .i64 t470] (0, 0) _ rfl (by (with_reducible repeat (first | refine blk_drewN ?_ _ | refine blk_drew ?_ | refine blk_alloc ?_ _)); refine blk_put (cs := #[.int .i64 t465, .int .i64 t466, .slice Ao49 t467.length co49, .int .i64 0]) ?_ 3 _ rfl; (with_reducible repeat (first | refine blk_drewN ?_ _ | refine blk_drew ?_ | refine blk_alloc ?_ _)); refine blk_put (cs := #[.int .i64 t465, .int .i64 t466, .slice none 0 0, .int .i64 0]) ?_ 2 _ rfl; (with_reducible repeat (first | refine blk_drewN ?_ _ | refine blk_drew ?_ | refine blk_alloc ?_ _)); refine blk_put (cs := #[.int .i64 t465, .int .i64 0, .slice none 0 0, .int .i64 0]) ?_ 1 _ rfl; (with_reducible repeat (first | refine blk_drewN ?_ _ | refine blk_drew ?_ | refine blk_alloc ?_ _)); refine blk_put (cs := #[.int .i64 0, .int .i64 0, .slice none 0 0, .int .i64 0]) ?_ 0 _ rfl; (with_reducible repeat (first | refine blk_drewN ?_ _ | refine blk_drew ?_ | refine blk_alloc ?_ _)); exact BK460.out) Try.underlying26 rfl (by kernel_rfl) (.tmp (.tmp (.tmp .nil))))) rfl ?_
                exact ⟨_, by first | rfl | (simp [errW_none, errW_some] <;> rfl) | (simp [*, errW_none, errW_some] <;> rfl), by (with_reducible repeat (first | apply Kd.R_alloc | apply Kd.R_drewN | apply Kd.R_drew)); exact Kd.R_mono (Kd.R_far (p := ⟨gb460, 3, none⟩) (Kd.R_far (p := ⟨gb460, 2, none⟩) (Kd.R_far (p := ⟨gb460, 1, none⟩) (Kd.R_far (p := ⟨gb460, 0, none⟩) (Kd.R_types HO469.out BK460.out (by decide)) (fun _ hk => hk.2) (.int .i64 t465)) (fun _ hk => hk.2) (.int .i64 t466)) (fun _ hk => hk.2) (.slice Ao49 t467.length co49)) (fun _ hk => hk.2) (.int .i64 t470)) (fun _ hk => trivial), by repeat (first | (with_reducible first | exact HB.out | apply below_alloc | apply pw_below_drewN | apply below_drew1 | refine below_set ?_ GE458.out | refine below_set ?_ GE459.out | refine below_set ?_ GE460.out | refine below_set ?_ GE471.out) | exact HB.out)⟩
            focus
              go_wp2
              go_meet
              case rel => exact ⟨_, (0), (0), (0), H', ⟨by have := HJ6.out; first | omega | exact Nat.le_refl _⟩, ⟨by (with_reducible repeat (first | apply Kd.R_alloc | apply Kd.R_drewN | apply Kd.R_drew)); exact Kd.R_mono (Kd.R_far (p := ⟨gb471, 3, none⟩) (Kd.R_far (p := ⟨gb471, 2, none⟩) (Kd.R_far (p := ⟨gb471, 1, none⟩) (Kd.R_far (p := ⟨gb471, 0, none⟩) (Kd.R_types HO469.out BK471.out (by decide)) (fun _ hk => hk.2) (.int .i64 t465)) (fun _ hk => hk.2) (.int .i64 t466)) (fun _ hk => hk.2) (.slice Ao49 t467.length co49)) (fun _ hk => hk.2) (.int .i64 t470)) (fun _ hk => trivial)⟩, ⟨by (with_reducible repeat (first | refine blk_drewN ?_ _ | refine blk_drew ?_ | refine blk_alloc ?_ _)); refine blk_far ?_ NB458_471.out _; (with_reducible repeat (first | refine blk_drewN ?_ _ | refine blk_drew ?_ | refine blk_alloc ?_ _)); refine blk_far ?_ NB458_471.out _; (with_reducible repeat (first | refine blk_drewN ?_ _ | refine blk_drew ?_ | refine blk_alloc ?_ _)); refine blk_far ?_ NB458_471.out _; (with_reducible repeat (first | refine blk_drewN ?_ _ | refine blk_drew ?_ | refine blk_alloc ?_ _)); refine blk_far ?_ NB458_471.out _; (with_reducible repeat (first | refine blk_drewN ?_ _ | refine blk_drew ?_ | refine blk_alloc ?_ _)); exact BK458.out⟩, ⟨by (with_reducible repeat (first | refine blk_drewN ?_ _ | refine blk_drew ?_ | refine blk_alloc ?_ _)); refine blk_far ?_ NB459_471.out _; (with_reducible repeat (first | refine blk_drewN ?_ _ | refine blk_drew ?_ | refine blk_alloc ?_ _)); refine blk_far ?_ NB459_471.out _; (with_reducible repeat (first | refine blk_drewN ?_ _ | refine blk_drew ?_ | refine blk_alloc ?_ _)); refine blk_far ?_ NB459_471.out _; (with_reducible repeat (first | refine blk_drewN ?_ _ | refine blk_drew ?_ | refine blk_alloc ?_ _)); refine blk_far ?_ NB459_471.out _; (with_reducible repeat (first | refine blk_drewN ?_ _ | refine blk_drew ?_ | refine blk_alloc ?_ _)); exact BK459.out⟩, ⟨by (with_reducible repeat (first | refine blk_drewN ?_ _ | refine blk_drew ?_ | refine blk_alloc ?_ _)); refine blk_far ?_ NB460_471.out _; (with_reducible repeat (first | refine blk_drewN ?_ _ | refine blk_drew ?_ | refine blk_alloc ?_ _)); refine blk_far ?_ NB460_471.out _; (with_reducible repeat (first | refine blk_drewN ?_ _ | refine blk_drew ?_ | refine blk_alloc ?_ _)); refine blk_far ?_ NB460_471.out _; (with_reducible repeat (first | refine blk_drewN ?_ _ | refine blk_drew ?_ | refine blk_alloc ?_ _)); refine blk_far ?_ NB460_471.out _; (with_reducible repeat (first | refine blk_drewN ?_ _ | refine blk_drew ?_ | refine blk_alloc ?_ _)); exact BK460.out⟩, ⟨by (with_reducible repeat (first | refine blk_drewN ?_ _ | refine blk_drew ?_ | refine blk_alloc ?_ _)); refine blk_put (cs := #[.int .i64 t465, .int .i64 t466, .slice Ao49 t467.length co49, .int .i64 0]) ?_ 3 _ rfl; (with_reducible repeat (first | refine blk_drewN ?_ _ | refine blk_drew ?_ | refine blk_alloc ?_ _)); refine blk_put (cs := #[.int .i64 t465, .int .i64 t466, .slice none 0 0, .int .i64 0]) ?_ 2 _ rfl; (with_reducible repeat (first | refine blk_drewN ?_ _ | refine blk_drew ?_ | refine blk_alloc ?_ _)); refine blk_put (cs := #[.int .i64 t465, .int .i64 0, .slice none 0 0, .int .i64 0]) ?_ 1 _ rfl; (with_reducible repeat (first | refine blk_drewN ?_ _ | refine blk_drew ?_ | refine blk_alloc ?_ _)); refine blk_put (cs := #[.int .i64 0, .int .i64 0, .slice none 0 0, .int .i64 0]) ?_ 0 _ rfl; (with_reducible repeat (first | refine blk_drewN ?_ _ | refine blk_drew ?_ | refine blk_alloc ?_ _)); exact BK471.out⟩, ⟨by repeat (first | (with_reducible first | exact HB.out | apply below_alloc | apply pw_below_drewN | apply below_drew1 | refine below_set ?_ GE458.out | refine below_set ?_ GE459.out | refine below_set ?_ GE460.out | refine below_set ?_ GE471.out) | exact HB.out)⟩⟩
          case rest =>
            clear HC39
            try clear c2
            try clear c6
            try clear c6b0
            try clear c6b1
            try clear c34
            try clear hcz13_0
            try clear hcz13_1
            try clear hcz13_2
            try clear hcz13_3
            try clear hcz42_0
            try clear hcz42_1
            try clear hcz42_2
            try clear hcz42_3
            try clear hcz48_0
            try clear hcz48_1
            try clear hcz48_2
            try clear hcz48_3
            try clear hcz51_0
            try clear hcz51_1
            try clear hcz52_0
            try clear hcz52_1
            try clear hcz52_2
            try clear hcz52_3
            try clear hfz13_0
            try clear hfz13_1
            try clear hfz13_2
            try clear hfz13_3
            try clear hfz42_0
            try clear hfz42_1
            try clear hfz42_2
            try clear hfz42_3
            try clear hfz48_0
            try clear hfz48_1
            try clear hfz48_2
            try clear hfz48_3
            try clear hfz51_0
            try clear hfz51_1
            try clear hfz52_0
            try clear hfz52_1
            try clear hfz52_2
            try clear hfz52_3
            obtain ⟨kq, x461000_38, x461001_38, x461003_38, HA, HJ38, HO_472002, BK458, BK459, BK460, BK471, HB⟩ := hcut
            cases kq with
            | zero => exact absurd HA.out (by simp [rialtoref08_Accept.j1])
            | succ kj38 =>
              have H := HA.out
              clear HA
              simp only [rialtoref08_Accept.j1] at H
              have HC89 := Aside0.mk H
              clear H
              have hnb90 := NB459_458.out
              have hnc90 := NB458_459.out
              have hnb91 := NB459_460.out
              have hnc91 := NB460_459.out
              have hnb92 := NB459_471.out
              have hnc92 := NB471_459.out
              have hcz93_0 : wc.cell? ⟨gb459, 0, none⟩ = some (.int .i64 a1_0) := (blk_cell BK459.out 0).trans rfl
              have hcz93_1 : wc.cell? ⟨gb459, 1, none⟩ = some (.int .i64 a1_1) := (blk_cell BK459.out 1).trans rfl
              have hfz93_0 := blk_frozen BK459.out 0
              have hfz93_1 := blk_frozen BK459.out 1
              go_upto_block 0 with (fail)
              go_cut [] (fun wc => ∃ (kq : Nat) (x461000_88 : Int) (x461001_88 : Int) (x461003_88 : Int) (x472002_88 : List (S33)) (u472002 : Value), Aside0 (rialtoref08_Accept.j4 kq a3 (wrap64 (a1_0 + (l2.length : Int))) a0_0 a0_1 l0_2 a0_3 t465 t466 x472002_88 t470 = some (r1, r2, r3, r4, r5, r6, r7)) ∧ Aside0 (kq ≤ kj38) ∧ Aside0 (Kd.R k33 33 wc w.heap.size (fun _ => True) u472002 x472002_88) ∧ Aside0 (wc.heap[gb458]? = some (.cells #[.int .i64 a0_0, .int .i64 a0_1, (.slice A0_2 l0_2.length c0_2), .int .i64 a0_3] 26 (0, 0))) ∧ Aside0 (wc.heap[gb459]? = some (.cells #[.int .i64 a1_0, .int .i64 a1_1] 23 (0, 0))) ∧ Aside0 (wc.heap[gb460]? = some (.cells #[.int .i64 x461000_88, .int .i64 x461001_88, (.slice none 0 0), .int .i64 x461003_88] 26 (0, 0))) ∧ Aside0 (wc.heap[gb471]? = some (.cells #[.int .i64 t465, .int .i64 t466, u472002, .int .i64 t470] 26 (0, 0))) ∧ Aside0 (Below w.heap.size w wc))
              case first =>
                have H := HC89.out
                clear HC89
                have H' := Aside0.mk H
                clear H
                go_wp2
                go_loopg [16] kj38 (fun kq v16 w' => ∃ (x16_3 : Int) (x461000_3 : Int) (x461001_3 : Int) (x461003_3 : Int) (x472002_3 : List (S33)) (u472002 : Value), v16 = .int .i64 x16_3 ∧ Aside0 (rialtoref08_Accept.l0 kq l2 a3 (wrap64 (a1_0 + (l2.length : Int))) x16_3 a0_0 a0_1 l0_2 a0_3 a1_0 a1_1 t465 t466 x472002_3 t470 = some (r1, r2, r3, r4, r5, r6, r7)) ∧ Aside0 (kq ≤ kj38) ∧ Aside0 (Kd.R k33 33 w' w.heap.size (fun _ => True) u472002 x472002_3) ∧ Aside0 (w'.heap[gb458]? = some (.cells #[.int .i64 a0_0, .int .i64 a0_1, (.slice A0_2 l0_2.length c0_2), .int .i64 a0_3] 26 (0, 0))) ∧ Aside0 (w'.heap[gb459]? = some (.cells #[.int .i64 a1_0, .int .i64 a1_1] 23 (0, 0))) ∧ Aside0 (w'.heap[gb460]? = some (.cells #[.int .i64 x461000_3, .int .i64 x461001_3, (.slice none 0 0), .int .i64 x461003_3] 26 (0, 0))) ∧ Aside0 (w'.heap[gb471]? = some (.cells #[.int .i64 t465, .int .i64 t466, u472002, .int .i64 t470] 26 (0, 0))) ∧ Aside0 (Below w.heap.size w w'))
                case atStart => exact ⟨(0), (x461000_38), (x461001_38), (x461003_38), (t467), (.slice Ao49 t467.length co49), (by first | rfl | (simp; done) | (simp [*]; done)), H', ⟨Nat.le_refl _⟩, ⟨by (with_reducible repeat (first | apply Kd.R_alloc | apply Kd.R_drewN | apply Kd.R_drew)); exact HO_472002.out⟩, ⟨by (with_reducible repeat (first | refine blk_drewN ?_ _ | refine blk_drew ?_ | refine blk_alloc ?_ _)); exact BK458.out⟩, ⟨by (with_reducible repeat (first | refine blk_drewN ?_ _ | refine blk_drew ?_ | refine blk_alloc ?_ _)); exact BK459.out⟩, ⟨by (with_reducible repeat (first | refine blk_drewN ?_ _ | refine blk_drew ?_ | refine blk_alloc ?_ _)); exact BK460.out⟩, ⟨by (with_reducible repeat (first | refine blk_drewN ?_ _ | refine blk_drew ?_ | refine blk_alloc ?_ _)); exact BK471.out⟩, ⟨by repeat (first | (with_reducible first | exact HB.out | apply below_alloc | apply pw_below_drewN | apply below_drew1 | refine below_set ?_ GE458.out | refine below_set ?_ GE459.out | refine below_set ?_ GE460.out | refine below_set ?_ GE471.out) | exact HB.out)⟩⟩
                case round =>
                  clear H'
                  try clear c2
                  try clear c6
                  try clear c6b0
                  try clear c6b1
                  try clear c34
                  try clear hcz13_0
                  try clear hcz13_1
                  try clear hcz13_2
                  try clear hcz13_3
                  try clear hcz42_0
                  try clear hcz42_1
                  try clear hcz42_2
                  try clear hcz42_3
                  try clear hcz48_0
                  try clear hcz48_1
                  try clear hcz48_2
                  try clear hcz48_3
                  try clear hcz51_0
                  try clear hcz51_1
                  try clear hcz52_0
                  try clear hcz52_1
                  try clear hcz52_2
                  try clear hcz52_3
                  try clear hcz93_0
                  try clear hcz93_1
                  try clear hfz13_0
                  try clear hfz13_1
                  try clear hfz13_2
                  try clear hfz13_3
                  try clear hfz42_0
                  try clear hfz42_1
                  try clear hfz42_2
                  try clear hfz42_3
                  try clear hfz48_0
                  try clear hfz48_1
                  try clear hfz48_2
                  try clear hfz48_3
                  try clear hfz51_0
                  try clear hfz51_1
                  try clear hfz52_0
                  try clear hfz52_1
                  try clear hfz52_2
                  try clear hfz52_3
                  try clear hfz93_0
                  try clear hfz93_1
                  obtain ⟨x16_3, x461000_3, x461001_3, x461003_3, x472002_3, u472002, rfl, HA, HK3, HO_472002, BK458, BK459, BK460, BK471, HB⟩ := hrel
                  cases gk with
                  | zero => exact absurd HA.out (by simp [rialtoref08_Accept.l0])
                  | succ k3 =>
                    have H := HA.out
                    clear HA
                    simp only [rialtoref08_Accept.l0] at H
                    by_cases c94 : x16_3 < (l2.length : Int)
                    · rw [if_pos c94] at H
                      have c94b0 : decide (x16_3 < (l2.length : Int)) = true := decide_eq_true c94
                      clear c94
                      (first | rw [c94b0] | (simp only [i64_w, i32_w]; rw [c94b0]) | skip)
                      by_cases c95 : (wrap64 ((wrap64 (a1_0 + 1)) + x16_3)) ≤ a0_0
                      · rw [if_pos c95] at H
                        have c95b0 : decide ((wrap64 ((wrap64 (a1_0 + 1)) + x16_3)) ≤ a0_0) = true := decide_eq_true c95
                        clear c95
                        have H' := Aside0.mk H
                        clear H
                        have hnb96 := NB459_458.out
                        have hnc96 := NB458_459.out
                        have hnb97 := NB459_460.out
                        have hnc97 := NB460_459.out
                        have hnb98 := NB459_471.out
                        have hnc98 := NB471_459.out
                        have hcz99_0 : wr.cell? ⟨gb459, 0, none⟩ = some (.int .i64 a1_0) := (blk_cell BK459.out 0).trans rfl
                        have hcz99_1 : wr.cell? ⟨gb459, 1, none⟩ = some (.int .i64 a1_1) := (blk_cell BK459.out 1).trans rfl
                        have hfz99_0 := blk_frozen BK459.out 0
                        have hfz99_1 := blk_frozen BK459.out 1
                        have hnb100 := NB458_460.out
                        have hnc100 := NB460_458.out
                        have hnb101 := NB458_471.out
                        have hnc101 := NB471_458.out
                        have hcz102_0 : wr.cell? ⟨gb458, 0, none⟩ = some (.int .i64 a0_0) := (blk_cell BK458.out 0).trans rfl
                        have hcz102_1 : wr.cell? ⟨gb458, 1, none⟩ = some (.int .i64 a0_1) := (blk_cell BK458.out 1).trans rfl
                        have hcz102_2 : wr.cell? ⟨gb458, 2, none⟩ = some (.slice A0_2 l0_2.length c0_2) := (blk_cell BK458.out 2).trans rfl
                        have hcz102_3 : wr.cell? ⟨gb458, 3, none⟩ = some (.int .i64 a0_3) := (blk_cell BK458.out 3).trans rfl
                        have hfz102_0 := blk_frozen BK458.out 0
                        have hfz102_1 := blk_frozen BK458.out 1
                        have hfz102_2 := blk_frozen BK458.out 2
                        have hfz102_3 := blk_frozen BK458.out 3
                        go_wp2
                        go_roundg k3
                        case measure => have := HJ6.out; have := HJ38.out; have := HK3.out; omega
                        case rel => exact ⟨(wrap64 (x16_3 + 1)), (x461000_3), (x461001_3), (x461003_3), (x472002_3), (u472002), (by first | rfl | (simp; done) | (simp [*]; done)), H', ⟨by have := HJ6.out; have := HJ38.out; have := HK3.out; omega⟩, ⟨by (with_reducible repeat (first | apply Kd.R_alloc | apply Kd.R_drewN | apply Kd.R_drew)); exact HO_472002.out⟩, ⟨by (with_reducible repeat (first | refine blk_drewN ?_ _ | refine blk_drew ?_ | refine blk_alloc ?_ _)); exact BK458.out⟩, ⟨by (with_reducible repeat (first | refine blk_drewN ?_ _ | refine blk_drew ?_ | refine blk_alloc ?_ _)); exact BK459.out⟩, ⟨by (with_reducible repeat (first | refine blk_drewN ?_ _ | refine blk_drew ?_ | refine blk_alloc ?_ _)); exact BK460.out⟩, ⟨by (with_reducible repeat (first | refine blk_drewN ?_ _ | refine blk_drew ?_ | refine blk_alloc ?_ _)); exact BK471.out⟩, ⟨by repeat (first | (with_reducible first | exact HB.out | apply below_alloc | apply pw_below_drewN | apply below_drew1 | refine below_set ?_ GE458.out | refine below_set ?_ GE459.out | refine below_set ?_ GE460.out | refine below_set ?_ GE471.out) | exact HB.out)⟩⟩
                      · rw [if_neg c95] at H
                        have c95b0 : decide ((wrap64 ((wrap64 (a1_0 + 1)) + x16_3)) ≤ a0_0) = false := decide_eq_false c95
                        clear c95
                        replace H := Option.bind_eq_some_iff.mp H
                        obtain ⟨⟨t474, t475⟩, A1030, H⟩ := H
                        replace H : (if t475 = true then (if 0 ≤ x16_3 then (rialtoref08_Accept.j3 k3 l2 a3 (wrap64 (a1_0 + (l2.length : Int))) x16_3 (wrap64 ((wrap64 (a1_0 + 1)) + x16_3)) (t474 == ((rd_T33 l2 x16_3).f0)) a0_0 a0_1 l0_2 a0_3 a1_0 a1_1 t465 t466 x472002_3 t470) else (none)) else (rialtoref08_Accept.j3 k3 l2 a3 (wrap64 (a1_0 + (l2.length : Int))) x16_3 (wrap64 ((wrap64 (a1_0 + 1)) + x16_3)) false a0_0 a0_1 l0_2 a0_3 a1_0 a1_1 t465 t466 x472002_3 t470)) = some (r1, r2, r3, r4, r5, r6, r7) := H
                        have A103 := Aside0.mk A1030
                        clear A1030
                        have HC104 := Aside0.mk H
                        clear H
                        have hnb105 := NB459_458.out
                        have hnc105 := NB458_459.out
                        have hnb106 := NB459_460.out
                        have hnc106 := NB460_459.out
                        have hnb107 := NB459_471.out
                        have hnc107 := NB471_459.out
                        have hcz108_0 : wr.cell? ⟨gb459, 0, none⟩ = some (.int .i64 a1_0) := (blk_cell BK459.out 0).trans rfl
                        have hcz108_1 : wr.cell? ⟨gb459, 1, none⟩ = some (.int .i64 a1_1) := (blk_cell BK459.out 1).trans rfl
                        have hfz108_0 := blk_frozen BK459.out 0
                        have hfz108_1 := blk_frozen BK459.out 1
                        have hnb109 := NB458_460.out
                        have hnc109 := NB460_458.out
                        have hnb110 := NB458_471.out
                        have hnc110 := NB471_458.out
                        have hcz111_0 : wr.cell? ⟨gb458, 0, none⟩ = some (.int .i64 a0_0) := (blk_cell BK458.out 0).trans rfl
                        have hcz111_1 : wr.cell? ⟨gb458, 1, none⟩ = some (.int .i64 a0_1) := (blk_cell BK458.out 1).trans rfl
                        have hcz111_2 : wr.cell? ⟨gb458, 2, none⟩ = some (.slice A0_2 l0_2.length c0_2) := (blk_cell BK458.out 2).trans rfl
                        have hcz111_3 : wr.cell? ⟨gb458, 3, none⟩ = some (.int .i64 a0_3) := (blk_cell BK458.out 3).trans rfl
                        have hfz111_0 := blk_frozen BK458.out 0
                        have hfz111_1 := blk_frozen BK458.out 1
                        have hfz111_2 := blk_frozen BK458.out 2
                        have hfz111_3 := blk_frozen BK458.out 3
                        go_upto_region 17 with (first | ((with_reducible refine gate_callee (f := 28) rfl ?_); refine goesL_ (some 88) rfl rfl Try.func28 (by kernel_rfl) rfl #[.agg #[.int .i64 a0_0, .int .i64 a0_1, .slice A0_2 l0_2.length c0_2, .int .i64 a0_3], .int .i64 (wrap64 ((wrap64 (a1_0 + 1)) + x16_3))] rfl (by (try simp only [List.map_toArray, List.map_cons, List.map_nil]); first | done | rfl | (simp only [List.length_drop, List.length_take]; rfl)) ?_; (with_reducible refine (rialtoref08_TermAt.calls k3 a0_0 a0_1 _ _ l0_2 a0_3 (wrap64 ((wrap64 (a1_0 + 1)) + x16_3)) t474 t475 _ ?side1 ?side2 A103.out).mono ?_); (case side1 => repeat (first | exact (Kd.C_below HR0_2.out HB.out) | (with_reducible refine Kd.C_alloc ?_ _) | (with_reducible refine Kd.C_drewN ?_ _) | (with_reducible refine Kd.C_drew ?_))); (case side2 => exact HC0_2.out); rintro e w112 ⟨rfl, hb⟩; refine ⟨_, rfl, ?_⟩; have n0_ := Aside0.mk (Kd.R_below (by (with_reducible repeat (first | apply Kd.R_alloc | apply Kd.R_drewN | apply Kd.R_drew)); exact HO_472002.out) hb); have n1_ := Aside0.mk (blk_below (g := gb458) (o := .cells #[.int .i64 a0_0, .int .i64 a0_1, .slice A0_2 l0_2.length c0_2, .int .i64 a0_3] 26 (0, 0)) (by (with_reducible repeat (first | refine blk_drewN ?_ _ | refine blk_drew ?_ | refine blk_alloc ?_ _)); exact BK458.out) hb); have n2_ := Aside0.mk (blk_below (g := gb459) (o := .cells #[.int .i64 a1_0, .int .i64 a1_1] 23 (0, 0)) (by (with_reducible repeat (first | refine blk_drewN ?_ _ | refine blk_drew ?_ | refine blk_alloc ?_ _)); exact BK459.out) hb); have n3_ := Aside0.mk (blk_below (g := gb460) (o := .cells #[.int .i64 x461000_3, .int .i64 x461001_3, .slice none 0 0, .int .i64 x461003_3] 26 (0, 0)) (by (with_reducible repeat (first | refine blk_drewN ?_ _ | refine blk_drew ?_ | refine blk_alloc ?_ _)); exact BK460.out) hb); have n4_ := Aside0.mk (blk_below (g := gb471) (o := .cells #[.int .i64 t465, .int .i64 t466, u472002, .int .i64 t470] 26 (0, 0)) (by (with_reducible repeat (first | refine blk_drewN ?_ _ | refine blk_drew ?_ | refine blk_alloc ?_ _)); exact BK471.out) hb); have n5_ := Aside0.mk (below_step (by repeat (first | (with_reducible first | exact HB.out | apply below_alloc | apply pw_below_drewN | apply below_drew1 | refine below_set ?_ GE458.out | refine below_set ?_ GE459.out | refine below_set ?_ GE460.out | refine below_set ?_ GE471.out) | exact HB.out)) hb); clear HO_472002; clear BK458; clear BK459; clear BK460; clear BK471; clear HB; have HO_472002 := n0_; have BK458 := n1_; have BK459 := n2_; have BK460 := n3_; have BK471 := n4_; have HB := n5_; clear n0_ n1_ n2_ n3_ n4_ n5_; (try clear hb); (try clear hb2); (try clear hk); (try clear hi)))
                        (try simp only [Act.put, List.setIfInBounds_toArray, List.set_cons_zero, List.set_cons_succ])
                        go_cut [100] (fun v100 wc => ∃ (kq : Nat) (x100_103 : Bool), v100 = .bool x100_103 ∧ Aside0 (rialtoref08_Accept.j3 kq l2 a3 (wrap64 (a1_0 + (l2.length : Int))) x16_3 (wrap64 ((wrap64 (a1_0 + 1)) + x16_3)) x100_103 a0_0 a0_1 l0_2 a0_3 a1_0 a1_1 t465 t466 x472002_3 t470 = some (r1, r2, r3, r4, r5, r6, r7)) ∧ Aside0 (kq ≤ k3) ∧ Aside0 (Kd.R k33 33 wc w.heap.size (fun _ => True) u472002 x472002_3) ∧ Aside0 (wc.heap[gb458]? = some (.cells #[.int .i64 a0_0, .int .i64 a0_1, (.slice A0_2 l0_2.length c0_2), .int .i64 a0_3] 26 (0, 0))) ∧ Aside0 (wc.heap[gb459]? = some (.cells #[.int .i64 a1_0, .int .i64 a1_1] 23 (0, 0))) ∧ Aside0 (wc.heap[gb460]? = some (.cells #[.int .i64 x461000_3, .int .i64 x461001_3, (.slice none 0 0), .int .i64 x461003_3] 26 (0, 0))) ∧ Aside0 (wc.heap[gb471]? = some (.cells #[.int .i64 t465, .int .i64 t466, u472002, .int .i64 t470] 26 (0, 0))) ∧ Aside0 (Below w.heap.size w wc))
                        case first =>
                          have H := HC104.out
                          clear HC104
                          by_cases c113 : t475 = true
                          · subst c113
                            have H1 : (if 0 ≤ x16_3 then (rialtoref08_Accept.j3 k3 l2 a3 (wrap64 (a1_0 + (l2.length : Int))) x16_3 (wrap64 ((wrap64 (a1_0 + 1)) + x16_3)) (t474 == ((rd_T33 l2 x16_3).f0)) a0_0 a0_1 l0_2 a0_3 a1_0 a1_1 t465 t466 x472002_3 t470) else (none)) = some (r1, r2, r3, r4, r5, r6, r7) := by rw [if_pos rfl] at H; exact H
                            clear H
                            have H := H1
                            clear H1
                            by_cases c114 : 0 ≤ x16_3
                            · rw [if_pos c114] at H
                              have c114b0 : decide (0 ≤ x16_3) = true := decide_eq_true c114
                              clear c114
                              (first | rw [c114b0] | (simp only [i64_w, i32_w]; rw [c114b0]) | skip)
                              have H' := Aside0.mk H
                              clear H
                              have p476 : 0 ≤ (x16_3 : Int) := of_decide_eq_true (by first | (with_reducible assumption) | assumption)
                              have q476 : x16_3 < (l2.length : Int) := of_decide_eq_true (by first | (with_reducible assumption) | assumption)
                              obtain ⟨ad476, e476, hx476_0, hx476_1, hx476_2⟩ := at_T33 HR2.out x16_3 p476 q476
                              cases e476
                              replace hx476_0 := (HB.out.cell (World.block_lt_of_cell? w _ hx476_0)).trans hx476_0
                              replace hx476_1 := (HB.out.cell (World.block_lt_of_cell? w _ hx476_1)).trans hx476_1
                              replace hx476_2 := (HB.out.cell (World.block_lt_of_cell? w _ hx476_2)).trans hx476_2
                              replace p476 := eq_true p476
                              replace q476 := eq_true q476
                              go_wp2
                              go_meet
                              case rel => exact ⟨_, ((t474 == ((rd_T33 l2 x16_3).f0))), (by first | rfl | (simp; done) | (simp [*]; done)), H', ⟨by have := HJ6.out; have := HJ38.out; have := HK3.out; first | omega | exact Nat.le_refl _⟩, ⟨by (with_reducible repeat (first | apply Kd.R_alloc | apply Kd.R_drewN | apply Kd.R_drew)); exact HO_472002.out⟩, ⟨by (with_reducible repeat (first | refine blk_drewN ?_ _ | refine blk_drew ?_ | refine blk_alloc ?_ _)); exact BK458.out⟩, ⟨by (with_reducible repeat (first | refine blk_drewN ?_ _ | refine blk_drew ?_ | refine blk_alloc ?_ _)); exact BK459.out⟩, ⟨by (with_reducible repeat (first | refine blk_drewN ?_ _ | refine blk_drew ?_ | refine blk_alloc ?_ _)); exact BK460.out⟩, ⟨by (with_reducible repeat (first | refine blk_drewN ?_ _ | refine blk_drew ?_ | refine blk_alloc ?_ _)); exact BK471.out⟩, ⟨by repeat (first | (with_reducible first | exact HB.out | apply below_alloc | apply pw_below_drewN | apply below_drew1 | refine below_set ?_ GE458.out | refine below_set ?_ GE459.out | refine below_set ?_ GE460.out | refine below_set ?_ GE471.out) | exact HB.out)⟩⟩
                            · rw [if_neg c114] at H
                              exact absurd H (by simp)
                          · replace c113 := Bool.eq_false_iff.mpr c113
                            subst c113
                            have H1 : (rialtoref08_Accept.j3 k3 l2 a3 (wrap64 (a1_0 + (l2.length : Int))) x16_3 (wrap64 ((wrap64 (a1_0 + 1)) + x16_3)) false a0_0 a0_1 l0_2 a0_3 a1_0 a1_1 t465 t466 x472002_3 t470) = some (r1, r2, r3, r4, r5, r6, r7) := by rw [if_neg (show ¬ (false = true) by decide)] at H; exact H
                            clear H
                            have H := H1
                            clear H1
                            have H' := Aside0.mk H
                            clear H
                            go_wp2
                            go_meet
                            case rel => exact ⟨_, (false), (by first | rfl | (simp; done) | (simp [*]; done)), H', ⟨by have := HJ6.out; have := HJ38.out; have := HK3.out; first | omega | exact Nat.le_refl _⟩, ⟨by (with_reducible repeat (first | apply Kd.R_alloc | apply Kd.R_drewN | apply Kd.R_drew)); exact HO_472002.out⟩, ⟨by (with_reducible repeat (first | refine blk_drewN ?_ _ | refine blk_drew ?_ | refine blk_alloc ?_ _)); exact BK458.out⟩, ⟨by (with_reducible repeat (first | refine blk_drewN ?_ _ | refine blk_drew ?_ | refine blk_alloc ?_ _)); exact BK459.out⟩, ⟨by (with_reducible repeat (first | refine blk_drewN ?_ _ | refine blk_drew ?_ | refine blk_alloc ?_ _)); exact BK460.out⟩, ⟨by (with_reducible repeat (first | refine blk_drewN ?_ _ | refine blk_drew ?_ | refine blk_alloc ?_ _)); exact BK471.out⟩, ⟨by repeat (first | (with_reducible first | exact HB.out | apply below_alloc | apply pw_below_drewN | apply below_drew1 | refine below_set ?_ GE458.out | refine below_set ?_ GE459.out | refine below_set ?_ GE460.out | refine below_set ?_ GE471.out) | exact HB.out)⟩⟩
                        case rest =>
                          clear HC104
                          try clear c2
                          try clear c6
                          try clear c6b0
                          try clear c6b1
                          try clear c34
                          try clear c94
                          try clear c94b0
                          try clear c95
                          try clear c95b0
                          try clear hcz108_0
                          try clear hcz108_1
                          try clear hcz111_0
                          try clear hcz111_1
                          try clear hcz111_2
                          try clear hcz111_3
                          try clear hcz13_0
                          try clear hcz13_1
                          try clear hcz13_2
                          try clear hcz13_3
                          try clear hcz42_0
                          try clear hcz42_1
                          try clear hcz42_2
                          try clear hcz42_3
                          try clear hcz48_0
                          try clear hcz48_1
                          try clear hcz48_2
                          try clear hcz48_3
                          try clear hcz51_0
                          try clear hcz51_1
                          try clear hcz52_0
                          try clear hcz52_1
                          try clear hcz52_2
                          try clear hcz52_3
                          try clear hcz93_0
                          try clear hcz93_1
                          try clear hfz108_0
                          try clear hfz108_1
                          try clear hfz111_0
                          try clear hfz111_1
                          try clear hfz111_2
                          try clear hfz111_3
                          try clear hfz13_0
                          try clear hfz13_1
                          try clear hfz13_2
                          try clear hfz13_3
                          try clear hfz42_0
                          try clear hfz42_1
                          try clear hfz42_2
                          try clear hfz42_3
                          try clear hfz48_0
                          try clear hfz48_1
                          try clear hfz48_2
                          try clear hfz48_3
                          try clear hfz51_0
                          try clear hfz51_1
                          try clear hfz52_0
                          try clear hfz52_1
                          try clear hfz52_2
                          try clear hfz52_3
                          try clear hfz93_0
                          try clear hfz93_1
                          obtain ⟨kq, x100_103, rfl, HA, HJ103, HO_472002, BK458, BK459, BK460, BK471, HB⟩ := hcut
                          cases kq with
                          | zero => exact absurd HA.out (by simp [rialtoref08_Accept.j3])
                          | succ kj103 =>
                            have H := HA.out
                            clear HA
                            simp only [rialtoref08_Accept.j3] at H
                            by_cases c115 : x100_103 = true
                            · subst c115
                              have H1 : (rialtoref08_Accept.l0 kj103 l2 a3 (wrap64 (a1_0 + (l2.length : Int))) (wrap64 (x16_3 + 1)) a0_0 a0_1 l0_2 a0_3 a1_0 a1_1 t465 t466 x472002_3 t470) = some (r1, r2, r3, r4, r5, r6, r7) := by rw [if_pos rfl] at H; exact H
                              clear H
                              have H := H1
                              clear H1
                              have H' := Aside0.mk H
                              clear H
                              go_wp2
                              go_roundg kj103
                              case measure => have := HJ6.out; have := HJ38.out; have := HK3.out; have := HJ103.out; omega
                              case rel => exact ⟨(wrap64 (x16_3 + 1)), (x461000_3), (x461001_3), (x461003_3), (x472002_3), (u472002), (by first | rfl | (simp; done) | (simp [*]; done)), H', ⟨by have := HJ6.out; have := HJ38.out; have := HK3.out; have := HJ103.out; omega⟩, ⟨by (with_reducible repeat (first | apply Kd.R_alloc | apply Kd.R_drewN | apply Kd.R_drew)); exact HO_472002.out⟩, ⟨by (with_reducible repeat (first | refine blk_drewN ?_ _ | refine blk_drew ?_ | refine blk_alloc ?_ _)); exact BK458.out⟩, ⟨by (with_reducible repeat (first | refine blk_drewN ?_ _ | refine blk_drew ?_ | refine blk_alloc ?_ _)); exact BK459.out⟩, ⟨by (with_reducible repeat (first | refine blk_drewN ?_ _ | refine blk_drew ?_ | refine blk_alloc ?_ _)); exact BK460.out⟩, ⟨by (with_reducible repeat (first | refine blk_drewN ?_ _ | refine blk_drew ?_ | refine blk_alloc ?_ _)); exact BK471.out⟩, ⟨by repeat (first | (with_reducible first | exact HB.out | apply below_alloc | apply pw_below_drewN | apply below_drew1 | refine below_set ?_ GE458.out | refine below_set ?_ GE459.out | refine below_set ?_ GE460.out | refine below_set ?_ GE471.out) | exact HB.out)⟩⟩
                            · replace c115 := Bool.eq_false_iff.mpr c115
                              subst c115
                              have H1 : (if (wrap64 ((wrap64 (a1_0 + 1)) + x16_3)) ≤ a0_3 then (some (0, 0, ([] : List (S33)), 0, 0, false, 80)) else (if 0 ≤ (wrap64 ((wrap64 ((wrap64 ((wrap64 (a1_0 + 1)) + x16_3)) - a0_0)) - 1)) then (if (wrap64 ((wrap64 ((wrap64 ((wrap64 (a1_0 + 1)) + x16_3)) - a0_0)) - 1)) ≤ (l0_2.length : Int) then ((some (l0_2.take ((wrap64 ((wrap64 ((wrap64 ((wrap64 (a1_0 + 1)) + x16_3)) - a0_0)) - 1)) : Int).toNat : List (S33))).bind fun y477 => (if ([] : List (S33)).length + y477.length < 4398046511104 then ((some (([] : List (S33)) ++ y477 : List (S33))).bind fun y481 => (if 0 ≤ x16_3 then (if x16_3 ≤ (l2.length : Int) then ((some (l2.drop (x16_3 : Int).toNat : List (S33))).bind fun y484 => (if y481.length + y484.length < 4398046511104 then (rialtoref08_Accept.j4 kj103 a3 (wrap64 (a1_0 + (l2.length : Int))) a0_0 a0_1 l0_2 a0_3 t465 t466 (y481 ++ y484) t470) else (none))) else (none)) else (none))) else (none))) else (none)) else (none))) = some (r1, r2, r3, r4, r5, r6, r7) := by rw [if_neg (show ¬ (false = true) by decide)] at H; exact H
                              clear H
                              have H := H1
                              clear H1
                              by_cases c116 : (wrap64 ((wrap64 (a1_0 + 1)) + x16_3)) ≤ a0_3
                              · rw [if_pos c116] at H
                                have c116b0 : decide ((wrap64 ((wrap64 (a1_0 + 1)) + x16_3)) ≤ a0_3) = true := decide_eq_true c116
                                clear c116
                                simp only [Option.some.injEq, Prod.mk.injEq] at H
                                obtain ⟨rfl, rfl, rfl, rfl, rfl, rfl, rfl⟩ := H
                                have hnb117 := NB458_459.out
                                have hnc117 := NB459_458.out
                                have hnb118 := NB458_460.out
                                have hnc118 := NB460_458.out
                                have hnb119 := NB458_471.out
                                have hnc119 := NB471_458.out
                                have hcz120_0 : wc.cell? ⟨gb458, 0, none⟩ = some (.int .i64 a0_0) := (blk_cell BK458.out 0).trans rfl
                                have hcz120_1 : wc.cell? ⟨gb458, 1, none⟩ = some (.int .i64 a0_1) := (blk_cell BK458.out 1).trans rfl
                                have hcz120_2 : wc.cell? ⟨gb458, 2, none⟩ = some (.slice A0_2 l0_2.length c0_2) := (blk_cell BK458.out 2).trans rfl
                                have hcz120_3 : wc.cell? ⟨gb458, 3, none⟩ = some (.int .i64 a0_3) := (blk_cell BK458.out 3).trans rfl
                                have hfz120_0 := blk_frozen BK458.out 0
                                have hfz120_1 := blk_frozen BK458.out 1
                                have hfz120_2 := blk_frozen BK458.out 2
                                have hfz120_3 := blk_frozen BK458.out 3
                                have hnb121 := NB460_459.out
                                have hnc121 := NB459_460.out
                                have hnb122 := NB460_471.out
                                have hnc122 := NB471_460.out
                                have hcz123_0 : wc.cell? ⟨gb460, 0, none⟩ = some (.int .i64 x461000_3) := (blk_cell BK460.out 0).trans rfl
                                have hcz123_1 : wc.cell? ⟨gb460, 1, none⟩ = some (.int .i64 x461001_3) := (blk_cell BK460.out 1).trans rfl
                                have hcz123_2 : wc.cell? ⟨gb460, 2, none⟩ = some (.slice none 0 0) := (blk_cell BK460.out 2).trans rfl
                                have hcz123_3 : wc.cell? ⟨gb460, 3, none⟩ = some (.int .i64 x461003_3) := (blk_cell BK460.out 3).trans rfl
                                have hfz123_0 := blk_frozen BK460.out 0
                                have hfz123_1 := blk_frozen BK460.out 1
                                have hfz123_2 := blk_frozen BK460.out 2
                                have hfz123_3 := blk_frozen BK460.out 3
                                go_wp2
                                refine bodyPost_ret (results_list (rs := [.cell 8 26, .tmp 9, .tmp 10, .tmp 11]) rfl (by simp) (.cell gb460 26 #[.int .i64 0, .int .i64 0, .slice none 0 0, .int .i64 0] (0, 0) _ rfl (by (with_reducible repeat (first | refine blk_drewN ?_ _ | refine blk_drew ?_ | refine blk_alloc ?_ _)); refine blk_put (cs := #[.int .i64 0, .int .i64 0, .slice none 0 0, .int .i64 x461003_3]) ?_ 3 _ rfl; (with_reducible repeat (first | refine blk_drewN ?_ _ | refine blk_drew ?_ | refine blk_alloc ?_ _)); refine blk_put (cs := #[.int .i64 0, .int .i64 0, .slice none 0 0, .int .i64 x461003_3]) ?_ 2 _ rfl; (with_reducible repeat (first | refine blk_drewN ?_ _ | refine blk_drew ?_ | refine blk_alloc ?_ _)); refine blk_put (cs := #[.int .i64 0, .int .i64 x461001_3, .slice none 0 0, .int .i64 x461003_3]) ?_ 1 _ rfl; (with_reducible repeat (first | refine blk_drewN ?_ _ | refine blk_drew ?_ | refine blk_alloc ?_ _)); refine blk_put (cs := #[.int .i64 x461000_3, .int .i64 x461001_3, .slice none 0 0, .int .i64 x461003_3]) ?_ 0 _ rfl; (with_reducible repeat (first | refine blk_drewN ?_ _ | refine blk_drew ?_ | refine blk_alloc ?_ _)); exact BK460.out) Try.underlying26 rfl (by kernel_rfl) (.tmp (.tmp (.tmp .nil))))) rfl ?_
                                exact ⟨_, by first | rfl | (simp [errW_none, errW_some] <;> rfl) | (simp [*, errW_none, errW_some] <;> rfl), by first | exact Kd.R_nil _ _ _ _ _ | exact Kd.N_nil _ _ _ _ _ | exact Kd.V_nil _ _ _ _ _ | exact Kd.Q_nil _ _ _ _ _ | exact Kd.S_nil _ _ _ _ _, by repeat (first | (with_reducible first | exact HB.out | apply below_alloc | apply pw_below_drewN | apply below_drew1 | refine below_set ?_ GE458.out | refine below_set ?_ GE459.out | refine below_set ?_ GE460.out | refine below_set ?_ GE471.out) | exact HB.out)⟩
                              · rw [if_neg c116] at H
                                have c116b0 : decide ((wrap64 ((wrap64 (a1_0 + 1)) + x16_3)) ≤ a0_3) = false := decide_eq_false c116
                                clear c116
                                obtain ⟨ji124, hji124⟩ : ∃ j_ : Int, (wrap64 ((wrap64 ((wrap64 ((wrap64 (a1_0 + 1)) + x16_3)) - a0_0)) - 1)) = j_ := ⟨_, rfl⟩
                                replace H : (if 0 ≤ (ji124) then (if (ji124) ≤ (l0_2.length : Int) then ((some (l0_2.take ((ji124) : Int).toNat : List (S33))).bind fun y477 => (if ([] : List (S33)).length + y477.length < 4398046511104 then ((some (([] : List (S33)) ++ y477 : List (S33))).bind fun y481 => (if 0 ≤ x16_3 then (if x16_3 ≤ (l2.length : Int) then ((some (l2.drop (x16_3 : Int).toNat : List (S33))).bind fun y484 => (if y481.length + y484.length < 4398046511104 then (rialtoref08_Accept.j4 kj103 a3 (wrap64 (a1_0 + (l2.length : Int))) a0_0 a0_1 l0_2 a0_3 t465 t466 (y481 ++ y484) t470) else (none))) else (none)) else (none))) else (none))) else (none)) else (none)) = some (r1, r2, r3, r4, r5, r6, r7) := by first | (rw [hji124] at H; exact H) | (simp only [hji124] at H ⊢; exact H)
                                have hji124w : (IntKind.i64.wrap ((wrap64 ((wrap64 ((wrap64 (a1_0 + 1)) + x16_3)) - a0_0)) - 1)) = ji124 := (i64_w _).trans hji124
                                by_cases c125 : 0 ≤ (ji124)
                                · rw [if_pos c125] at H
                                  have c125b0 := eq_true c125
                                  have c125b1 : decide (0 ≤ (ji124)) = true := decide_eq_true c125
                                  clear c125
                                  by_cases c126 : (ji124) ≤ (l0_2.length : Int)
                                  · rw [if_pos c126] at H
                                    have c126b0 := eq_true c126
                                    have c126b1 : decide ((ji124) ≤ (l0_2.length : Int)) = true := decide_eq_true c126
                                    clear c126
                                    obtain ⟨y477, hy477⟩ : ∃ y_ : List (S33), y_ = (l0_2.take ((ji124) : Int).toNat) := ⟨_, rfl⟩
                                    replace H : (if ([] : List (S33)).length + y477.length < 4398046511104 then ((some (([] : List (S33)) ++ y477 : List (S33))).bind fun y481 => (if 0 ≤ x16_3 then (if x16_3 ≤ (l2.length : Int) then ((some (l2.drop (x16_3 : Int).toNat : List (S33))).bind fun y484 => (if y481.length + y484.length < 4398046511104 then (rialtoref08_Accept.j4 kj103 a3 (wrap64 (a1_0 + (l2.length : Int))) a0_0 a0_1 l0_2 a0_3 t465 t466 (y481 ++ y484) t470) else (none))) else (none)) else (none))) else (none)) = some (r1, r2, r3, r4, r5, r6, r7) := by first | (rw [hy477]; with_reducible exact H) | (have H2_ := (Option.bind_some _ _).symm.trans H; rw [hy477]; with_reducible exact H2_) | (have H2_ := (Option.bind_some _ _).symm.trans H; with_reducible exact H2_) | with_reducible exact H | (rw [hy477]; exact H) | exact H
                                    have Ny477 := Aside0.mk hy477
                                    clear hy477
                                    by_cases c127 : ([] : List (S33)).length + y477.length < 4398046511104
                                    · rw [if_pos c127] at H
                                      have LMc127 := Aside0.mk c127
                                      clear c127
                                      obtain ⟨y481, hy481⟩ : ∃ y_ : List (S33), y_ = (([] : List (S33)) ++ y477) := ⟨_, rfl⟩
                                      replace H : (if 0 ≤ x16_3 then (if x16_3 ≤ (l2.length : Int) then ((some (l2.drop (x16_3 : Int).toNat : List (S33))).bind fun y484 => (if y481.length + y484.length < 4398046511104 then (rialtoref08_Accept.j4 kj103 a3 (wrap64 (a1_0 + (l2.length : Int))) a0_0 a0_1 l0_2 a0_3 t465 t466 (y481 ++ y484) t470) else (none))) else (none)) else (none)) = some (r1, r2, r3, r4, r5, r6, r7) := by first | (rw [hy481]; with_reducible exact H) | (have H2_ := (Option.bind_some _ _).symm.trans H; rw [hy481]; with_reducible exact H2_) | (have H2_ := (Option.bind_some _ _).symm.trans H; with_reducible exact H2_) | with_reducible exact H | (rw [hy481]; exact H) | exact H
                                      have Ny481 := Aside0.mk hy481
                                      clear hy481
                                      by_cases c128 : 0 ≤ x16_3
                                      · rw [if_pos c128] at H
                                        have c128b0 := eq_true c128
                                        have c128b1 : decide (0 ≤ x16_3) = true := decide_eq_true c128
                                        clear c128
                                        by_cases c129 : x16_3 ≤ (l2.length : Int)
                                        · rw [if_pos c129] at H
                                          have c129b0 := eq_true c129
                                          have c129b1 : decide (x16_3 ≤ (l2.length : Int)) = true := decide_eq_true c129
                                          clear c129
                                          obtain ⟨y484, hy484⟩ : ∃ y_ : List (S33), y_ = (l2.drop (x16_3 : Int).toNat) := ⟨_, rfl⟩
                                          replace H : (if y481.length + y484.length < 4398046511104 then (rialtoref08_Accept.j4 kj103 a3 (wrap64 (a1_0 + (l2.length : Int))) a0_0 a0_1 l0_2 a0_3 t465 t466 (y481 ++ y484) t470) else (none)) = some (r1, r2, r3, r4, r5, r6, r7) := by first | (rw [hy484]; with_reducible exact H) | (have H2_ := (Option.bind_some _ _).symm.trans H; rw [hy484]; with_reducible exact H2_) | (have H2_ := (Option.bind_some _ _).symm.trans H; with_reducible exact H2_) | with_reducible exact H | (rw [hy484]; exact H) | exact H
                                          have Ny484 := Aside0.mk hy484
                                          clear hy484
                                          by_cases c130 : y481.length + y484.length < 4398046511104
                                          · rw [if_pos c130] at H
                                            have LMc130 := Aside0.mk c130
                                            clear c130
                                            obtain ⟨y488, hy488⟩ : ∃ y_ : List (S33), y_ = (y481 ++ y484) := ⟨_, rfl⟩
                                            replace H : (rialtoref08_Accept.j4 kj103 a3 (wrap64 (a1_0 + (l2.length : Int))) a0_0 a0_1 l0_2 a0_3 t465 t466 y488 t470) = some (r1, r2, r3, r4, r5, r6, r7) := by first | (rw [hy488]; with_reducible exact H) | (have H2_ := (Option.bind_some _ _).symm.trans H; rw [hy488]; with_reducible exact H2_) | (have H2_ := (Option.bind_some _ _).symm.trans H; with_reducible exact H2_) | with_reducible exact H | (rw [hy488]; exact H) | exact H
                                            have Ny488 := Aside0.mk hy488
                                            clear hy488
                                            have H' := Aside0.mk H
                                            clear H
                                            have hnb131 := NB458_459.out
                                            have hnc131 := NB459_458.out
                                            have hnb132 := NB458_460.out
                                            have hnc132 := NB460_458.out
                                            have hnb133 := NB458_471.out
                                            have hnc133 := NB471_458.out
                                            have hcz134_0 : wc.cell? ⟨gb458, 0, none⟩ = some (.int .i64 a0_0) := (blk_cell BK458.out 0).trans rfl
                                            have hcz134_1 : wc.cell? ⟨gb458, 1, none⟩ = some (.int .i64 a0_1) := (blk_cell BK458.out 1).trans rfl
                                            have hcz134_2 : wc.cell? ⟨gb458, 2, none⟩ = some (.slice A0_2 l0_2.length c0_2) := (blk_cell BK458.out 2).trans rfl
                                            have hcz134_3 : wc.cell? ⟨gb458, 3, none⟩ = some (.int .i64 a0_3) := (blk_cell BK458.out 3).trans rfl
                                            have hfz134_0 := blk_frozen BK458.out 0
                                            have hfz134_1 := blk_frozen BK458.out 1
                                            have hfz134_2 := blk_frozen BK458.out 2
                                            have hfz134_3 := blk_frozen BK458.out 3
                                            have hnb135 := NB471_459.out
                                            have hnc135 := NB459_471.out
                                            have hnb136 := NB471_460.out
                                            have hnc136 := NB460_471.out
                                            have hcz137_0 : wc.cell? ⟨gb471, 0, none⟩ = some (.int .i64 t465) := (blk_cell BK471.out 0).trans rfl
                                            have hcz137_1 : wc.cell? ⟨gb471, 1, none⟩ = some (.int .i64 t466) := (blk_cell BK471.out 1).trans rfl
                                            have hcz137_2 : wc.cell? ⟨gb471, 2, none⟩ = some (u472002) := (blk_cell BK471.out 2).trans rfl
                                            have hcz137_3 : wc.cell? ⟨gb471, 3, none⟩ = some (.int .i64 t470) := (blk_cell BK471.out 3).trans rfl
                                            have hfz137_0 := blk_frozen BK471.out 0
                                            have hfz137_1 := blk_frozen BK471.out 1
                                            have hfz137_2 := blk_frozen BK471.out 2
                                            have hfz137_3 := blk_frozen BK471.out 3
                                            try go_wp2
                                            have n0_ : Aside0 (Kd.R k33 33 (wc.setCell ⟨gb471, 2, none⟩ (.slice none 0 0)) w.heap.size (fun _ => True) u472002 x472002_3) := ⟨by (with_reducible repeat (first | apply Kd.R_alloc | apply Kd.R_drewN | apply Kd.R_drew)); exact Kd.R_mono (Kd.R_far (p := ⟨gb471, 2, none⟩) (Kd.R_types HO_472002.out BK471.out (by decide)) (fun _ hk => hk.2) (.slice none 0 0)) (fun _ hk => trivial)⟩
                                            have n1_ : Aside0 ((wc.setCell ⟨gb471, 2, none⟩ (.slice none 0 0)).heap[gb458]? = some (.cells #[.int .i64 a0_0, .int .i64 a0_1, .slice A0_2 l0_2.length c0_2, .int .i64 a0_3] 26 (0, 0))) := ⟨by (with_reducible repeat (first | refine blk_drewN ?_ _ | refine blk_drew ?_ | refine blk_alloc ?_ _)); refine blk_far ?_ NB458_471.out _; (with_reducible repeat (first | refine blk_drewN ?_ _ | refine blk_drew ?_ | refine blk_alloc ?_ _)); exact BK458.out⟩
                                            have n2_ : Aside0 ((wc.setCell ⟨gb471, 2, none⟩ (.slice none 0 0)).heap[gb459]? = some (.cells #[.int .i64 a1_0, .int .i64 a1_1] 23 (0, 0))) := ⟨by (with_reducible repeat (first | refine blk_drewN ?_ _ | refine blk_drew ?_ | refine blk_alloc ?_ _)); refine blk_far ?_ NB459_471.out _; (with_reducible repeat (first | refine blk_drewN ?_ _ | refine blk_drew ?_ | refine blk_alloc ?_ _)); exact BK459.out⟩
                                            have n3_ : Aside0 ((wc.setCell ⟨gb471, 2, none⟩ (.slice none 0 0)).heap[gb460]? = some (.cells #[.int .i64 x461000_3, .int .i64 x461001_3, .slice none 0 0, .int .i64 x461003_3] 26 (0, 0))) := ⟨by (with_reducible repeat (first | refine blk_drewN ?_ _ | refine blk_drew ?_ | refine blk_alloc ?_ _)); refine blk_far ?_ NB460_471.out _; (with_reducible repeat (first | refine blk_drewN ?_ _ | refine blk_drew ?_ | refine blk_alloc ?_ _)); exact BK460.out⟩
                                            have n4_ : Aside0 ((wc.setCell ⟨gb471, 2, none⟩ (.slice none 0 0)).heap[gb471]? = some (.cells #[.int .i64 t465, .int .i64 t466, .slice none 0 0, .int .i64 t470] 26 (0, 0))) := ⟨by (with_reducible repeat (first | refine blk_drewN ?_ _ | refine blk_drew ?_ | refine blk_alloc ?_ _)); refine blk_put (cs := #[.int .i64 t465, .int .i64 t466, u472002, .int .i64 t470]) ?_ 2 _ rfl; (with_reducible repeat (first | refine blk_drewN ?_ _ | refine blk_drew ?_ | refine blk_alloc ?_ _)); exact BK471.out⟩
                                            have n5_ : Aside0 (Below w.heap.size w (wc.setCell ⟨gb471, 2, none⟩ (.slice none 0 0))) := ⟨by repeat (first | (with_reducible first | exact HB.out | apply below_alloc | apply pw_below_drewN | apply below_drew1 | refine below_set ?_ GE458.out | refine below_set ?_ GE459.out | refine below_set ?_ GE460.out | refine below_set ?_ GE471.out) | exact HB.out)⟩
                                            (try clear HO_472002)
                                            (try clear BK458)
                                            (try clear BK459)
                                            (try clear BK460)
                                            (try clear BK471)
                                            (try clear HB)
                                            generalize (wc.setCell ⟨gb471, 2, none⟩ (.slice none 0 0)) = w138 at n0_ n1_ n2_ n3_ n4_ n5_ ⊢
                                            have HO_472002 := n0_
                                            have BK458 := n1_
                                            have BK459 := n2_
                                            have BK460 := n3_
                                            have BK471 := n4_
                                            have HB := n5_
                                            clear n0_ n1_ n2_ n3_ n4_ n5_
                                            have n0_ := Aside0.mk (Kd.R_drew HO_472002.out)
                                            have n1_ := Aside0.mk (blk_drew BK458.out)
                                            have n2_ := Aside0.mk (blk_drew BK459.out)
                                            have n3_ := Aside0.mk (blk_drew BK460.out)
                                            have n4_ := Aside0.mk (blk_drew BK471.out)
                                            have n5_ := Aside0.mk (below_drew1 HB.out)
                                            clear HO_472002
                                            clear BK458
                                            clear BK459
                                            clear BK460
                                            clear BK471
                                            clear HB
                                            have HO_472002 := n0_
                                            have BK458 := n1_
                                            have BK459 := n2_
                                            have BK460 := n3_
                                            have BK471 := n4_
                                            have HB := n5_
                                            clear n0_ n1_ n2_ n3_ n4_ n5_
                                            have q140 : ((ji124) : Int) ≤ ((l0_2.length : Int) : Int) := of_decide_eq_true (by first | (with_reducible assumption) | assumption)
                                            obtain ⟨i0140, hi0140, _, hsz140, _⟩ := info_parts info33
                                            have hroom140 : l0_2.length ≤ c0_2 := HC0_2.out
                                            have hC140 : Kd.C k33 _ A0_2 l0_2.length l0_2 := HR0_2.out
                                            have hcut140 := cut_to (P := Try.prog) 24 33 .i64 Try.underlying24 hi0140 A0_2 l0_2.length c0_2 (ji124) (of_decide_eq_true (by first | (with_reducible assumption) | assumption)) q140 hroom140
                                            have hr140 := Kd.C_take (m := ((ji124) : Int).toNat) hC140 (by omega)
                                            have hy140 : y477.length = ((ji124) : Int).toNat := (by rw [Ny477.out, List.length_take]; omega)
                                            rw [← Ny477.out] at hr140
                                            rw [← hy140] at hcut140
                                            have HR480 := Aside0.mk hr140
                                            have HC480 := Aside0.mk (show y477.length ≤ c0_2 from by omega)
                                            clear hr140 hC140 hroom140 hi0140 hsz140
                                            have KY140 := Aside0.mk hy140
                                            clear hy140
                                            replace q140 := eq_true q140
                                            refine start_ (n := 14) (S := fun w' => w'.cell? ⟨gb471, 0, none⟩ = some (.int .i64 t465) ∧ w'.cell? ⟨gb471, 1, none⟩ = some (.int .i64 t466) ∧ w'.cell? ⟨gb471, 2, none⟩ = some (.slice none 0 0) ∧ w'.cell? ⟨gb471, 3, none⟩ = some (.int .i64 t470) ∧ w'.cell? ⟨gb458, 0, none⟩ = some (.int .i64 a0_0) ∧ w'.cell? ⟨gb458, 1, none⟩ = some (.int .i64 a0_1) ∧ w'.cell? ⟨gb458, 2, none⟩ = some (.slice A0_2 l0_2.length c0_2) ∧ w'.cell? ⟨gb458, 3, none⟩ = some (.int .i64 a0_3)) (ds := [13]) #[false, false, false, false, false, false, false, false, false, false, false, false, false, false] (by kernel_rfl) rfl rfl ⟨(blk_cell BK471.out 0).trans rfl, (blk_cell BK471.out 1).trans rfl, (blk_cell BK471.out 2).trans rfl, (blk_cell BK471.out 3).trans rfl, (blk_cell BK458.out 0).trans rfl, (blk_cell BK458.out 1).trans rfl, (blk_cell BK458.out 2).trans rfl, (blk_cell BK458.out 3).trans rfl⟩ (fun hHeld => ?_); refine with_tabW rialtoref08_Accept.tab21 rialtoref08_Accept.bits21 (fun HT_ HW_ => ?_)
                                            generalize w138.drew = w139 at HO_472002 BK458 BK459 BK460 BK471 HB HR480 hHeld ⊢
                                            refine stepP HT_ 0 (some 107) ?_
                                            refine stepP HT_ 2 (some 109) ?_
                                            refine stepP HT_ 4 (some 111) ?_
                                            refine stepP HT_ 5 (some 112) ?_
                                            refine stepP HT_ 6 (some 113) ?_
                                            refine stepT8 HT_ HW_ 1 (some 108) hHeld ?_
                                            refine stepT8 HT_ HW_ 3 (some 110) hHeld ?_
                                            refine stepT8 HT_ HW_ 7 (some 114) hHeld ?_
                                            refine stepP HT_ 8 (some 115) ?_
                                            refine stepP HT_ 9 (some 116) ?_
                                            refine stepP HT_ 10 (some 117) ?_
                                            refine one_ (i := 11) (N := some 118) #[true, true, true, true, true, true, true, true, true, true, true, true, false, false] rfl rfl (one_of HT_.out (by kernel_rfl)) (by decide) (fun K hK => ?_)
                                            refine Kd.R_append_rows_step k33 (w0 := w) w.heap.size (by rfl) (.tmp 108) (.tmp 117) 24 33 (.agg #[(.int .i64 0), (.int .i64 0), (.string ⟨#[]⟩)]) 32 rfl Try.underlying24 info33 rfl (by decide) (by omega) (.slice none 0 0) ([] : List (S33)) y477 _ _ _ (fun k_ => some k_ ≠ (u472002 : Value).ownBlock) (fun _ => False) rfl rfl ?aO ?aR (fun _ _ h => h) (fun _ h => h.elim) ?aF ?aB ?aS ?aL ?_
                                            (case aR => repeat (first | exact (Kd.C_below HR480.out HB.out) | (with_reducible refine Kd.C_alloc ?_ _) | (with_reducible refine Kd.C_drewN ?_ _) | (with_reducible refine Kd.C_drew ?_)))
                                            (case aB => exact (by repeat (first | (with_reducible first | exact HB.out | apply below_alloc | apply pw_below_drewN | apply below_drew1 | refine below_set ?_ GE458.out | refine below_set ?_ GE459.out | refine below_set ?_ GE460.out | refine below_set ?_ GE471.out) | exact HB.out)))
                                            (case aF => exact (fun k_ hk => Kd.fresh' (Kd.R_lt (by (with_reducible repeat (first | apply Kd.R_alloc | apply Kd.R_drewN | apply Kd.R_drew)); exact HO_472002.out)) k_ hk))
                                            (case aO => exact ((Kd.R_nil _ _ _ _ (fun k_ => some k_ ≠ (u472002 : Value).ownBlock))))
                                            (case aS => exact (below_size (by repeat (first | (with_reducible first | exact HB.out | apply below_alloc | apply pw_below_drewN | apply below_drew1 | refine below_set ?_ GE458.out | refine below_set ?_ GE459.out | refine below_set ?_ GE460.out | refine below_set ?_ GE471.out) | exact HB.out))))
                                            (case aL => have := LMc127.out; omega)
                                            intro v482 w141 ho hb hg hat
                                            rw [← Ny481.out] at ho
                                            have n0_ := Aside0.mk (Kd.R_after (Kd.R_apart_nil (by (with_reducible repeat (first | apply Kd.R_alloc | apply Kd.R_drewN | apply Kd.R_drew)); exact HO_472002.out)) hg hat)
                                            have n1_ := Aside0.mk (blk_grown (g := gb458) (o := .cells #[.int .i64 a0_0, .int .i64 a0_1, .slice A0_2 l0_2.length c0_2, .int .i64 a0_3] 26 (0, 0)) (by (with_reducible repeat (first | refine blk_drewN ?_ _ | refine blk_drew ?_ | refine blk_alloc ?_ _)); exact BK458.out) hg (by simp [Value.ownBlock]))
                                            have n2_ := Aside0.mk (blk_grown (g := gb459) (o := .cells #[.int .i64 a1_0, .int .i64 a1_1] 23 (0, 0)) (by (with_reducible repeat (first | refine blk_drewN ?_ _ | refine blk_drew ?_ | refine blk_alloc ?_ _)); exact BK459.out) hg (by simp [Value.ownBlock]))
                                            have n3_ := Aside0.mk (blk_grown (g := gb460) (o := .cells #[.int .i64 x461000_3, .int .i64 x461001_3, .slice none 0 0, .int .i64 x461003_3] 26 (0, 0)) (by (with_reducible repeat (first | refine blk_drewN ?_ _ | refine blk_drew ?_ | refine blk_alloc ?_ _)); exact BK460.out) hg (by simp [Value.ownBlock]))
                                            have n4_ := Aside0.mk (blk_grown (g := gb471) (o := .cells #[.int .i64 t465, .int .i64 t466, .slice none 0 0, .int .i64 t470] 26 (0, 0)) (by (with_reducible repeat (first | refine blk_drewN ?_ _ | refine blk_drew ?_ | refine blk_alloc ?_ _)); exact BK471.out) hg (by simp [Value.ownBlock]))
                                            have n5_ := Aside0.mk (hb)
                                            have n6_ := Aside0.mk (ho)
                                            clear HO_472002
                                            clear BK458
                                            clear BK459
                                            clear BK460
                                            clear BK471
                                            clear HB
                                            have HO_472002 := n0_
                                            have BK458 := n1_
                                            have BK459 := n2_
                                            have BK460 := n3_
                                            have BK471 := n4_
                                            have HB := n5_
                                            have HO483 := n6_
                                            clear n0_ n1_ n2_ n3_ n4_ n5_ n6_
                                            clear ho hb hg hat
                                            obtain ⟨Ao142, co142, eo142⟩ := Kd.R_slice HO483.out
                                            (first | subst eo142 | (injection eo142 with f1_ f2_ f3_; have f4_ := f1_.symm; have f5_ := f3_.symm; clear f1_ f2_ f3_; subst f4_; subst f5_))
                                            refine hK.out _ _ ⟨(blk_cell BK471.out 0).trans rfl, (blk_cell BK471.out 1).trans rfl, (blk_cell BK471.out 2).trans rfl, (blk_cell BK471.out 3).trans rfl, (blk_cell BK458.out 0).trans rfl, (blk_cell BK458.out 1).trans rfl, (blk_cell BK458.out 2).trans rfl, (blk_cell BK458.out 3).trans rfl⟩ (fun hHeld => ?_)
                                            clear hK K
                                            refine norm_ (a' := ?_) ?_ ?_
                                            rotate_left
                                            · show Act.put _ (some 118) _ = _
                                              simp only [Act.put, List.setIfInBounds_toArray, List.set_cons_zero, List.set_cons_succ, i64_w, i32_w]
                                              rfl
                                            refine stepP HT_ 12 (some 119) ?_
                                            refine last_ (i := 13) (N := none) #[true, true, true, true, true, true, true, true, true, true, true, true, true, true] rfl rfl (one_of HT_.out (by kernel_rfl)) (by decide) (fun K hK => ?_)
                                            have hs143 : w141.cell? ⟨gb471, 2, none⟩ = some (.slice none 0 0) := (blk_cell BK471.out 2).trans rfl
                                            have hfs143 := blk_frozen BK471.out 2
                                            have hns143_0 := NB458_471.out
                                            have hns143_1 := NB459_471.out
                                            have hns143_2 := NB460_471.out
                                            have hms143_0 := NB471_458.out
                                            have hms143_1 := NB471_459.out
                                            have hms143_2 := NB471_460.out
                                            refine skip_ (w1 := ?_) (by rfl) rfl ?_ ?_
                                            rotate_left
                                            · go_simp
                                              rfl
                                            refine hK.out _ _ ?_
                                            clear hK K
                                            refine done_ (done_of HT_.out (by kernel_rfl)) ?_
                                            try go_wp2
                                            have n0_ : Aside0 (Kd.R k33 33 (w141.setCell ⟨gb471, 2, none⟩ (.slice Ao142 y481.length co142)) w.heap.size (fun k_ => some k_ ≠ (.slice Ao142 y481.length co142 : Value).ownBlock) u472002 x472002_3) := ⟨by (with_reducible repeat (first | apply Kd.R_alloc | apply Kd.R_drewN | apply Kd.R_drew)); exact Kd.R_mono (Kd.R_far (p := ⟨gb471, 2, none⟩) (Kd.R_types HO_472002.out BK471.out (by decide)) (fun _ hk => hk.2) (.slice Ao142 y481.length co142)) (fun _ hk => hk.1.2)⟩
                                            have n1_ : Aside0 (Kd.R k33 33 (w141.setCell ⟨gb471, 2, none⟩ (.slice Ao142 y481.length co142)) w.heap.size (fun k_ => some k_ ≠ (u472002 : Value).ownBlock) (.slice Ao142 y481.length co142) y481) := ⟨by (with_reducible repeat (first | apply Kd.R_alloc | apply Kd.R_drewN | apply Kd.R_drew)); exact Kd.R_mono (Kd.R_far (p := ⟨gb471, 2, none⟩) (Kd.R_types HO483.out BK471.out (by decide)) (fun _ hk => hk.2) (.slice Ao142 y481.length co142)) (fun _ hk => hk.1)⟩
                                            have n2_ : Aside0 ((w141.setCell ⟨gb471, 2, none⟩ (.slice Ao142 y481.length co142)).heap[gb458]? = some (.cells #[.int .i64 a0_0, .int .i64 a0_1, .slice A0_2 l0_2.length c0_2, .int .i64 a0_3] 26 (0, 0))) := ⟨by (with_reducible repeat (first | refine blk_drewN ?_ _ | refine blk_drew ?_ | refine blk_alloc ?_ _)); refine blk_far ?_ NB458_471.out _; (with_reducible repeat (first | refine blk_drewN ?_ _ | refine blk_drew ?_ | refine blk_alloc ?_ _)); exact BK458.out⟩
                                            have n3_ : Aside0 ((w141.setCell ⟨gb471, 2, none⟩ (.slice Ao142 y481.length co142)).heap[gb459]? = some (.cells #[.int .i64 a1_0, .int .i64 a1_1] 23 (0, 0))) := ⟨by (with_reducible repeat (first | refine blk_drewN ?_ _ | refine blk_drew ?_ | refine blk_alloc ?_ _)); refine blk_far ?_ NB459_471.out _; (with_reducible repeat (first | refine blk_drewN ?_ _ | refine blk_drew ?_ | refine blk_alloc ?_ _)); exact BK459.out⟩
                                            have n4_ : Aside0 ((w141.setCell ⟨gb471, 2, none⟩ (.slice Ao142 y481.length co142)).heap[gb460]? = some (.cells #[.int .i64 x461000_3, .int .i64 x461001_3, .slice none 0 0, .int .i64 x461003_3] 26 (0, 0))) := ⟨by (with_reducible repeat (first | refine blk_drewN ?_ _ | refine blk_drew ?_ | refine blk_alloc ?_ _)); refine blk_far ?_ NB460_471.out _; (with_reducible repeat (first | refine blk_drewN ?_ _ | refine blk_drew ?_ | refine blk_alloc ?_ _)); exact BK460.out⟩
                                            have n5_ : Aside0 ((w141.setCell ⟨gb471, 2, none⟩ (.slice Ao142 y481.length co142)).heap[gb471]? = some (.cells #[.int .i64 t465, .int .i64 t466, .slice Ao142 y481.length co142, .int .i64 t470] 26 (0, 0))) := ⟨by (with_reducible repeat (first | refine blk_drewN ?_ _ | refine blk_drew ?_ | refine blk_alloc ?_ _)); refine blk_put (cs := #[.int .i64 t465, .int .i64 t466, .slice none 0 0, .int .i64 t470]) ?_ 2 _ rfl; (with_reducible repeat (first | refine blk_drewN ?_ _ | refine blk_drew ?_ | refine blk_alloc ?_ _)); exact BK471.out⟩
                                            have n6_ : Aside0 (Below w.heap.size w (w141.setCell ⟨gb471, 2, none⟩ (.slice Ao142 y481.length co142))) := ⟨by repeat (first | (with_reducible first | exact HB.out | apply below_alloc | apply pw_below_drewN | apply below_drew1 | refine below_set ?_ GE458.out | refine below_set ?_ GE459.out | refine below_set ?_ GE460.out | refine below_set ?_ GE471.out) | exact HB.out)⟩
                                            (try clear HO_472002)
                                            (try clear HO483)
                                            (try clear BK458)
                                            (try clear BK459)
                                            (try clear BK460)
                                            (try clear BK471)
                                            (try clear HB)
                                            generalize (w141.setCell ⟨gb471, 2, none⟩ (.slice Ao142 y481.length co142)) = w144 at n0_ n1_ n2_ n3_ n4_ n5_ n6_ ⊢
                                            have HO_472002 := n0_
                                            have HO483 := n1_
                                            have BK458 := n2_
                                            have BK459 := n3_
                                            have BK460 := n4_
                                            have BK471 := n5_
                                            have HB := n6_
                                            clear n0_ n1_ n2_ n3_ n4_ n5_ n6_
                                            have n0_ := Aside0.mk (Kd.R_drew HO_472002.out)
                                            have n1_ := Aside0.mk (Kd.R_drew HO483.out)
                                            have n2_ := Aside0.mk (blk_drew BK458.out)
                                            have n3_ := Aside0.mk (blk_drew BK459.out)
                                            have n4_ := Aside0.mk (blk_drew BK460.out)
                                            have n5_ := Aside0.mk (blk_drew BK471.out)
                                            have n6_ := Aside0.mk (below_drew1 HB.out)
                                            clear HO_472002
                                            clear HO483
                                            clear BK458
                                            clear BK459
                                            clear BK460
                                            clear BK471
                                            clear HB
                                            have HO_472002 := n0_
                                            have HO483 := n1_
                                            have BK458 := n2_
                                            have BK459 := n3_
                                            have BK460 := n4_
                                            have BK471 := n5_
                                            have HB := n6_
                                            clear n0_ n1_ n2_ n3_ n4_ n5_ n6_
                                            have q146 : (x16_3 : Int) ≤ ((l2.length : Int) : Int) := of_decide_eq_true (by first | (with_reducible assumption) | assumption)
                                            obtain ⟨i0146, hi0146, _, hsz146, _⟩ := info_parts info33
                                            have hroom146 : l2.length ≤ c2 := HC2.out
                                            have hC146 : Kd.C k33 _ A2 l2.length l2 := HR2.out
                                            have q0146 : (0 : Int) ≤ (x16_3 : Int) := of_decide_eq_true (by first | (with_reducible assumption) | assumption)
                                            have hcut146 := cut_from (P := Try.prog) 24 33 .i64 Try.underlying24 hi0146 3 hsz146 A2 l2.length c2 x16_3 q0146 q146
                                            have hr146 := Kd.C_drop (m := (x16_3 : Int).toNat) (c := c2) hC146 (by omega) hroom146
                                            obtain ⟨A146, hA146⟩ : ∃ A1, A1 = (if c2 = (x16_3 : Int).toNat then A2 else (A2 : Option Addr).map (·.add ((x16_3 : Int).toNat * 3))) := ⟨_, rfl⟩
                                            obtain ⟨c146, hc146⟩ : ∃ c1, c1 = c2 - (x16_3 : Int).toNat := ⟨_, rfl⟩
                                            have hy146 : y484.length = l2.length - (x16_3 : Int).toNat := (by rw [Ny484.out, List.length_drop] <;> omega)
                                            rw [show (l2).drop (x16_3 : Int).toNat = y484 from Ny484.out.symm] at hr146
                                            replace hr146 : Kd.C k33 _ A146 y484.length y484 := (by rw [hA146]; exact hr146)
                                            rw [← hy146, ← hA146, ← hc146] at hcut146
                                            have HR487 := Aside0.mk hr146
                                            have HC487 := Aside0.mk (show y484.length ≤ c146 from by rw [hy146, hc146]; exact Nat.sub_le_sub_right hroom146 _)
                                            clear hr146 hC146 hroom146 hi0146 hsz146 hc146
                                            have KY146 := Aside0.mk hy146
                                            have KA146 := Aside0.mk hA146
                                            clear hy146 hA146
                                            replace q146 := eq_true q146
                                            refine start_ (n := 8) (S := fun w' => w'.cell? ⟨gb471, 0, none⟩ = some (.int .i64 t465) ∧ w'.cell? ⟨gb471, 1, none⟩ = some (.int .i64 t466) ∧ w'.cell? ⟨gb471, 2, none⟩ = some (.slice Ao142 y481.length co142) ∧ w'.cell? ⟨gb471, 3, none⟩ = some (.int .i64 t470)) (ds := [7]) #[false, false, false, false, false, false, false, false] (by kernel_rfl) rfl rfl ⟨(blk_cell BK471.out 0).trans rfl, (blk_cell BK471.out 1).trans rfl, (blk_cell BK471.out 2).trans rfl, (blk_cell BK471.out 3).trans rfl⟩ (fun hHeld => ?_); refine with_tabW rialtoref08_Accept.tab22 rialtoref08_Accept.bits22 (fun HT_ HW_ => ?_)
                                            generalize w144.drew = w145 at HO_472002 HO483 BK458 BK459 BK460 BK471 HB HR487 hHeld ⊢
                                            refine stepP HT_ 0 (some 120) ?_
                                            refine stepP HT_ 2 (some 122) ?_
                                            refine stepP HT_ 3 (some 123) ?_
                                            refine stepP HT_ 4 (some 124) ?_
                                            refine stepT4 HT_ HW_ 1 (some 121) hHeld ?_
                                            refine one_ (i := 5) (N := some 125) #[true, true, true, true, true, true, false, false] rfl rfl (one_of HT_.out (by kernel_rfl)) (by decide) (fun K hK => ?_)
                                            refine Kd.R_append_rows_step k33 (w0 := w) w.heap.size (by rfl) (.tmp 121) (.tmp 124) 24 33 (.agg #[(.int .i64 0), (.int .i64 0), (.string ⟨#[]⟩)]) 32 rfl Try.underlying24 info33 rfl (by decide) (by omega) (.slice Ao142 y481.length co142) y481 y484 _ _ _ (fun k_ => some k_ ≠ (u472002 : Value).ownBlock) (fun _ => False) rfl rfl ?aO ?aR (fun _ _ h => h) (fun _ h => h.elim) ?aF ?aB ?aS ?aL ?_
                                            (case aR => repeat (first | exact (Kd.C_below HR487.out HB.out) | (with_reducible refine Kd.C_alloc ?_ _) | (with_reducible refine Kd.C_drewN ?_ _) | (with_reducible refine Kd.C_drew ?_)))
                                            (case aB => exact (by repeat (first | (with_reducible first | exact HB.out | apply below_alloc | apply pw_below_drewN | apply below_drew1 | refine below_set ?_ GE458.out | refine below_set ?_ GE459.out | refine below_set ?_ GE460.out | refine below_set ?_ GE471.out) | exact HB.out)))
                                            (case aF => exact (fun k_ hk => Kd.fresh' (Kd.R_lt (by (with_reducible repeat (first | apply Kd.R_alloc | apply Kd.R_drewN | apply Kd.R_drew)); exact HO_472002.out)) k_ hk))
                                            (case aO => exact (by (with_reducible repeat (first | apply Kd.R_alloc | apply Kd.R_drewN | apply Kd.R_drew)); exact HO483.out))
                                            (case aS => exact (below_size (by repeat (first | (with_reducible first | exact HB.out | apply below_alloc | apply pw_below_drewN | apply below_drew1 | refine below_set ?_ GE458.out | refine below_set ?_ GE459.out | refine below_set ?_ GE460.out | refine below_set ?_ GE471.out) | exact HB.out))))
                                            (case aL => have := LMc130.out; omega)
                                            intro v489 w147 ho hb hg hat
                                            rw [← Ny488.out] at ho
                                            have n0_ := Aside0.mk (Kd.R_after (ok := (fun _ => True)) (by (with_reducible repeat (first | apply Kd.R_alloc | apply Kd.R_drewN | apply Kd.R_drew)); exact Kd.R_mono HO_472002.out (fun _ hk => ⟨trivial, hk⟩)) hg hat)
                                            have n1_ := Aside0.mk (blk_grown (g := gb458) (o := .cells #[.int .i64 a0_0, .int .i64 a0_1, .slice A0_2 l0_2.length c0_2, .int .i64 a0_3] 26 (0, 0)) (by (with_reducible repeat (first | refine blk_drewN ?_ _ | refine blk_drew ?_ | refine blk_alloc ?_ _)); exact BK458.out) hg (Kd.R_ne HO483.out BK458.out (by decide)))
                                            have n2_ := Aside0.mk (blk_grown (g := gb459) (o := .cells #[.int .i64 a1_0, .int .i64 a1_1] 23 (0, 0)) (by (with_reducible repeat (first | refine blk_drewN ?_ _ | refine blk_drew ?_ | refine blk_alloc ?_ _)); exact BK459.out) hg (Kd.R_ne HO483.out BK459.out (by decide)))
                                            have n3_ := Aside0.mk (blk_grown (g := gb460) (o := .cells #[.int .i64 x461000_3, .int .i64 x461001_3, .slice none 0 0, .int .i64 x461003_3] 26 (0, 0)) (by (with_reducible repeat (first | refine blk_drewN ?_ _ | refine blk_drew ?_ | refine blk_alloc ?_ _)); exact BK460.out) hg (Kd.R_ne HO483.out BK460.out (by decide)))
                                            have n4_ := Aside0.mk (blk_grown (g := gb471) (o := .cells #[.int .i64 t465, .int .i64 t466, .slice Ao142 y481.length co142, .int .i64 t470] 26 (0, 0)) (by (with_reducible repeat (first | refine blk_drewN ?_ _ | refine blk_drew ?_ | refine blk_alloc ?_ _)); exact BK471.out) hg (Kd.R_ne HO483.out BK471.out (by decide)))
                                            have n5_ := Aside0.mk (hb)
                                            have n6_ := Aside0.mk (ho)
                                            clear HO_472002
                                            clear BK458
                                            clear BK459
                                            clear BK460
                                            clear BK471
                                            clear HB
                                            clear HO483
                                            have HO_472002 := n0_
                                            have BK458 := n1_
                                            have BK459 := n2_
                                            have BK460 := n3_
                                            have BK471 := n4_
                                            have HB := n5_
                                            have HO490 := n6_
                                            clear n0_ n1_ n2_ n3_ n4_ n5_ n6_
                                            clear ho hb hg hat
                                            obtain ⟨Ao148, co148, eo148⟩ := Kd.R_slice HO490.out
                                            (first | subst eo148 | (injection eo148 with f1_ f2_ f3_; have f4_ := f1_.symm; have f5_ := f3_.symm; clear f1_ f2_ f3_; subst f4_; subst f5_))
                                            refine hK.out _ _ ⟨(blk_cell BK471.out 0).trans rfl, (blk_cell BK471.out 1).trans rfl, (blk_cell BK471.out 2).trans rfl, (blk_cell BK471.out 3).trans rfl⟩ (fun hHeld => ?_)
                                            clear hK K
                                            refine norm_ (a' := ?_) ?_ ?_
                                            rotate_left
                                            · show Act.put _ (some 125) _ = _
                                              simp only [Act.put, List.setIfInBounds_toArray, List.set_cons_zero, List.set_cons_succ, i64_w, i32_w]
                                              rfl
                                            refine stepP HT_ 6 (some 126) ?_
                                            refine last_ (i := 7) (N := none) #[true, true, true, true, true, true, true, true] rfl rfl (one_of HT_.out (by kernel_rfl)) (by decide) (fun K hK => ?_)
                                            have hs149 : w147.cell? ⟨gb471, 2, none⟩ = some (.slice Ao142 y481.length co142) := (blk_cell BK471.out 2).trans rfl
                                            have hfs149 := blk_frozen BK471.out 2
                                            have hns149_0 := NB458_471.out
                                            have hns149_1 := NB459_471.out
                                            have hns149_2 := NB460_471.out
                                            have hms149_0 := NB471_458.out
                                            have hms149_1 := NB471_459.out
                                            have hms149_2 := NB471_460.out
                                            refine skip_ (w1 := ?_) (by rfl) rfl ?_ ?_
                                            rotate_left
                                            · go_simp
                                              rfl
                                            refine hK.out _ _ ?_
                                            clear hK K
                                            refine done_ (done_of HT_.out (by kernel_rfl)) ?_
                                            try go_wp2
                                            go_meet
                                            case rel => exact ⟨_, (x461000_3), (x461001_3), (x461003_3), (y488), (.slice Ao148 y488.length co148), H', ⟨by have := HJ6.out; have := HJ38.out; have := HK3.out; have := HJ103.out; first | omega | exact Nat.le_refl _⟩, ⟨by (with_reducible repeat (first | apply Kd.R_alloc | apply Kd.R_drewN | apply Kd.R_drew)); exact Kd.R_mono (Kd.R_far (p := ⟨gb471, 2, none⟩) (Kd.R_types HO490.out BK471.out (by decide)) (fun _ hk => hk.2) (.slice Ao148 y488.length co148)) (fun _ hk => trivial)⟩, ⟨by (with_reducible repeat (first | refine blk_drewN ?_ _ | refine blk_drew ?_ | refine blk_alloc ?_ _)); refine blk_far ?_ NB458_471.out _; (with_reducible repeat (first | refine blk_drewN ?_ _ | refine blk_drew ?_ | refine blk_alloc ?_ _)); exact BK458.out⟩, ⟨by (with_reducible repeat (first | refine blk_drewN ?_ _ | refine blk_drew ?_ | refine blk_alloc ?_ _)); refine blk_far ?_ NB459_471.out _; (with_reducible repeat (first | refine blk_drewN ?_ _ | refine blk_drew ?_ | refine blk_alloc ?_ _)); exact BK459.out⟩, ⟨by (with_reducible repeat (first | refine blk_drewN ?_ _ | refine blk_drew ?_ | refine blk_alloc ?_ _)); refine blk_far ?_ NB460_471.out _; (with_reducible repeat (first | refine blk_drewN ?_ _ | refine blk_drew ?_ | refine blk_alloc ?_ _)); exact BK460.out⟩, ⟨by (with_reducible repeat (first | refine blk_drewN ?_ _ | refine blk_drew ?_ | refine blk_alloc ?_ _)); refine blk_put (cs := #[.int .i64 t465, .int .i64 t466, .slice Ao142 y481.length co142, .int .i64 t470]) ?_ 2 _ rfl; (with_reducible repeat (first | refine blk_drewN ?_ _ | refine blk_drew ?_ | refine blk_alloc ?_ _)); exact BK471.out⟩, ⟨by repeat (first | (with_reducible first | exact HB.out | apply below_alloc | apply pw_below_drewN | apply below_drew1 | refine below_set ?_ GE458.out | refine below_set ?_ GE459.out | refine below_set ?_ GE460.out | refine below_set ?_ GE471.out) | exact HB.out)⟩⟩
                                          · rw [if_neg c130] at H
                                            exact absurd H (by simp)
                                        · rw [if_neg c129] at H
                                          exact absurd H (by simp)
                                      · rw [if_neg c128] at H
                                        exact absurd H (by simp)
                                    · rw [if_neg c127] at H
                                      exact absurd H (by simp)
                                  · rw [if_neg c126] at H
                                    exact absurd H (by simp)
                                · rw [if_neg c125] at H
                                  exact absurd H (by simp)
                    · rw [if_neg c94] at H
                      have c94b0 : decide (x16_3 < (l2.length : Int)) = false := decide_eq_false c94
                      clear c94
                      (first | rw [c94b0] | (simp only [i64_w, i32_w]; rw [c94b0]) | skip)
                      have H' := Aside0.mk H
                      clear H
                      go_wp2
                      go_meet
                      case rel => exact ⟨_, (x461000_3), (x461001_3), (x461003_3), (x472002_3), (u472002), H', ⟨by have := HJ6.out; have := HJ38.out; have := HK3.out; first | omega | exact Nat.le_refl _⟩, ⟨by (with_reducible repeat (first | apply Kd.R_alloc | apply Kd.R_drewN | apply Kd.R_drew)); exact HO_472002.out⟩, ⟨by (with_reducible repeat (first | refine blk_drewN ?_ _ | refine blk_drew ?_ | refine blk_alloc ?_ _)); exact BK458.out⟩, ⟨by (with_reducible repeat (first | refine blk_drewN ?_ _ | refine blk_drew ?_ | refine blk_alloc ?_ _)); exact BK459.out⟩, ⟨by (with_reducible repeat (first | refine blk_drewN ?_ _ | refine blk_drew ?_ | refine blk_alloc ?_ _)); exact BK460.out⟩, ⟨by (with_reducible repeat (first | refine blk_drewN ?_ _ | refine blk_drew ?_ | refine blk_alloc ?_ _)); exact BK471.out⟩, ⟨by repeat (first | (with_reducible first | exact HB.out | apply below_alloc | apply pw_below_drewN | apply below_drew1 | refine below_set ?_ GE458.out | refine below_set ?_ GE459.out | refine below_set ?_ GE460.out | refine below_set ?_ GE471.out) | exact HB.out)⟩⟩
              case rest =>
                clear HC89
                try clear c2
                try clear hfz52_2
                try clear hfz52_3
                try clear hfz93_0
                try clear hfz93_1
                obtain ⟨kq, x461000_88, x461001_88, x461003_88, x472002_88, u472002, HA, HJ88, HO_472002, BK458, BK459, BK460, BK471, HB⟩ := hcut
                cases kq with
                | zero => exact absurd HA.out (by simp [rialtoref08_Accept.j4])
                | succ kj88 =>
                  have H := HA.out
                  clear HA
                  simp only [rialtoref08_Accept.j4] at H
                  replace H := Option.bind_eq_some_iff.mp H
                  obtain ⟨t491, A1500, H⟩ := H
                  replace H : (if t491 = true then (if (x472002_88.length : Int) > 400 then (some (0, 0, ([] : List (S33)), 0, 0, false, 2)) else ((rialtoref08_end.f t465 t466 x472002_88 t470).bind fun t492 => (if t492 > 1000000 then (some (0, 0, ([] : List (S33)), 0, 0, false, 2)) else (some (t465, t466, x472002_88, mx t470 (mn a3 (wrap64 (a1_0 + (l2.length : Int)))), mx (wrap64 (a1_0 + (l2.length : Int))) a0_0, true, 0))))) else (some (0, 0, ([] : List (S33)), 0, 0, false, 80))) = some (r1, r2, r3, r4, r5, r6, r7) := H
                  have A150 := Aside0.mk A1500
                  clear A1500
                  by_cases c151 : t491 = true
                  focus
                    subst c151
                    have H1 : (if (x472002_88.length : Int) > 400 then (some (0, 0, ([] : List (S33)), 0, 0, false, 2)) else ((rialtoref08_end.f t465 t466 x472002_88 t470).bind fun t492 => (if t492 > 1000000 then (some (0, 0, ([] : List (S33)), 0, 0, false, 2)) else (some (t465, t466, x472002_88, mx t470 (mn a3 (wrap64 (a1_0 + (l2.length : Int)))), mx (wrap64 (a1_0 + (l2.length : Int))) a0_0, true, 0))))) = some (r1, r2, r3, r4, r5, r6, r7) := by rw [if_pos rfl] at H; exact H
                    clear H
                    have H := H1
                    clear H1
                    by_cases c152 : (x472002_88.length : Int) > 400
                    focus
                      rw [if_pos c152] at H
                      have c152b0 : decide (400 < (x472002_88.length : Int)) = true := decide_eq_true c152
                      have c152b1 : decide (400 < x472002_88.length) = true := decide_eq_true (by omega)
                      clear c152
                    rotate_left 1
                    focus
                      rw [if_neg c152] at H
                      have c152b0 : decide (400 < (x472002_88.length : Int)) = false := decide_eq_false c152
                      have c152b1 : decide (400 < x472002_88.length) = false := decide_eq_false (by omega)
                      clear c152
                      replace H := Option.bind_eq_some_iff.mp H
                      obtain ⟨t492, A1650, H⟩ := H
                      replace H : (if t492 > 1000000 then (some (0, 0, ([] : List (S33)), 0, 0, false, 2)) else (some (t465, t466, x472002_88, mx t470 (mn a3 (wrap64 (a1_0 + (l2.length : Int)))), mx (wrap64 (a1_0 + (l2.length : Int))) a0_0, true, 0))) = some (r1, r2, r3, r4, r5, r6, r7) := H
                      have A165 := Aside0.mk A1650
                      clear A1650
                      by_cases c166 : t492 > 1000000
                      focus
                        rw [if_pos c166] at H
                        have c166b0 : decide (1000000 < t492) = true := decide_eq_true c166
                        clear c166
                      rotate_left 1
                      focus
                        rw [if_neg c166] at H
                        have c166b0 : decide (1000000 < t492) = false := decide_eq_false c166
                        clear c166
                        obtain ⟨ji180, hji180⟩ : ∃ j_ : Int, (mn a3 (wrap64 (a1_0 + (l2.length : Int)))) = j_ := ⟨_, rfl⟩
                        replace H : (some (t465, t466, x472002_88, mx t470 (ji180), mx (wrap64 (a1_0 + (l2.length : Int))) a0_0, true, 0)) = some (r1, r2, r3, r4, r5, r6, r7) := by first | (rw [hji180] at H; exact H) | (simp only [hji180] at H ⊢; exact H)
                      rotate_left 1
                    rotate_left 2
                  rotate_left 3
                  focus
                    replace c151 := Bool.eq_false_iff.mpr c151
                    subst c151
                    have H1 : (some (0, 0, ([] : List (S33)), 0, 0, false, 80)) = some (r1, r2, r3, r4, r5, r6, r7) := by rw [if_neg (show ¬ (false = true) by decide)] at H; exact H
                    clear H
                    have H := H1
                    clear H1
                  rotate_left 1
                  iterate 2
                    focus
                      simp only [Option.some.injEq, Prod.mk.injEq] at H
                      obtain ⟨rfl, rfl, rfl, rfl, rfl, rfl, rfl⟩ := H
                      have hnbyb471_458 := NB471_458.out
                      have hncyb458_471 := NB458_471.out
                      have hnbyb471_459 := NB471_459.out
                      have hncyb459_471 := NB459_471.out
                      have hnbyb471_460 := NB471_460.out
                      have hncyb460_471 := NB460_471.out
                      have hczyb471_0 : wc.cell? ⟨gb471, 0, none⟩ = some (.int .i64 t465) := (blk_cell BK471.out 0).trans rfl
                      have hczyb471_1 : wc.cell? ⟨gb471, 1, none⟩ = some (.int .i64 t466) := (blk_cell BK471.out 1).trans rfl
                      have hczyb471_2 : wc.cell? ⟨gb471, 2, none⟩ = some (u472002) := (blk_cell BK471.out 2).trans rfl
                      have hczyb471_3 : wc.cell? ⟨gb471, 3, none⟩ = some (.int .i64 t470) := (blk_cell BK471.out 3).trans rfl
                      have hfzyb471_0 := blk_frozen BK471.out 0
                      have hfzyb471_1 := blk_frozen BK471.out 1
                      have hfzyb471_2 := blk_frozen BK471.out 2
                      have hfzyb471_3 := blk_frozen BK471.out 3
                      have hnbyb458_459 := NB458_459.out
                      have hncyb459_458 := NB459_458.out
                      have hnbyb458_460 := NB458_460.out
                      have hncyb460_458 := NB460_458.out
                      have hczyb458_0 : wc.cell? ⟨gb458, 0, none⟩ = some (.int .i64 a0_0) := (blk_cell BK458.out 0).trans rfl
                      have hczyb458_1 : wc.cell? ⟨gb458, 1, none⟩ = some (.int .i64 a0_1) := (blk_cell BK458.out 1).trans rfl
                      have hczyb458_2 : wc.cell? ⟨gb458, 2, none⟩ = some (.slice A0_2 l0_2.length c0_2) := (blk_cell BK458.out 2).trans rfl
                      have hczyb458_3 : wc.cell? ⟨gb458, 3, none⟩ = some (.int .i64 a0_3) := (blk_cell BK458.out 3).trans rfl
                      have hfzyb458_0 := blk_frozen BK458.out 0
                      have hfzyb458_1 := blk_frozen BK458.out 1
                      have hfzyb458_2 := blk_frozen BK458.out 2
                      have hfzyb458_3 := blk_frozen BK458.out 3
                      obtain ⟨Aoyi0, coyi0, eoyi0⟩ := Kd.R_slice HO_472002.out
                      subst eoyi0
                      go_wp2_with (first | ((with_reducible refine gate_callee (f := 46) rfl ?_); refine goesL_ (some 132) rfl rfl Try.func46 (by kernel_rfl) rfl #[.slice Aoyi0 x472002_88.length coyi0, .int .i64 a0_1] rfl (by (try simp only [List.map_toArray, List.map_cons, List.map_nil]); first | done | rfl | (simp only [List.length_drop, List.length_take]; rfl)) ?_; (with_reducible refine (rialtoref08_Rows.calls kj88 _ _ x472002_88 a0_1 _ _ ?side1 ?side2 A150.out).mono ?_); (case side1 => repeat (first | exact (Kd.R_reads' HO_472002.out).2.2 | (with_reducible refine Kd.C_alloc ?_ _) | (with_reducible refine Kd.C_drewN ?_ _) | (with_reducible refine Kd.C_drew ?_))); (case side2 => exact (Kd.R_reads' HO_472002.out).2.1); rintro e wx132i0 ⟨rfl, hb⟩; refine ⟨_, rfl, ?_⟩; have n0_ := Aside0.mk (Kd.R_below (by (with_reducible repeat (first | apply Kd.R_alloc | apply Kd.R_drewN | apply Kd.R_drew)); exact HO_472002.out) hb); have n1_ := Aside0.mk (blk_below (g := gb458) (o := .cells #[.int .i64 a0_0, .int .i64 a0_1, .slice A0_2 l0_2.length c0_2, .int .i64 a0_3] 26 (0, 0)) (by (with_reducible repeat (first | refine blk_drewN ?_ _ | refine blk_drew ?_ | refine blk_alloc ?_ _)); exact BK458.out) hb); have n2_ := Aside0.mk (blk_below (g := gb459) (o := .cells #[.int .i64 a1_0, .int .i64 a1_1] 23 (0, 0)) (by (with_reducible repeat (first | refine blk_drewN ?_ _ | refine blk_drew ?_ | refine blk_alloc ?_ _)); exact BK459.out) hb); have n3_ := Aside0.mk (blk_below (g := gb460) (o := .cells #[.int .i64 x461000_88, .int .i64 x461001_88, .slice none 0 0, .int .i64 x461003_88] 26 (0, 0)) (by (with_reducible repeat (first | refine blk_drewN ?_ _ | refine blk_drew ?_ | refine blk_alloc ?_ _)); exact BK460.out) hb); have n4_ := Aside0.mk (blk_below (g := gb471) (o := .cells #[.int .i64 t465, .int .i64 t466, .slice Aoyi0 x472002_88.length coyi0, .int .i64 t470] 26 (0, 0)) (by (with_reducible repeat (first | refine blk_drewN ?_ _ | refine blk_drew ?_ | refine blk_alloc ?_ _)); exact BK471.out) hb); have n5_ := Aside0.mk (below_step (by repeat (first | (with_reducible first | exact HB.out | apply below_alloc | apply pw_below_drewN | apply below_drew1 | refine below_set ?_ GE458.out | refine below_set ?_ GE459.out | refine below_set ?_ GE460.out | refine below_set ?_ GE471.out) | exact HB.out)) hb); clear HO_472002; clear BK458; clear BK459; clear BK460; clear BK471; clear HB; have HO_472002 := n0_; have BK458 := n1_; have BK459 := n2_; have BK460 := n3_; have BK471 := n4_; have HB := n5_; clear n0_ n1_ n2_ n3_ n4_ n5_; (try clear hb); (try clear hb2); (try clear hk); (try clear hi); have hczx132b471_0 : wx132i0.cell? ⟨gb471, 0, none⟩ = some (.int .i64 t465) := (blk_cell BK471.out 0).trans rfl; have hczx132b471_1 : wx132i0.cell? ⟨gb471, 1, none⟩ = some (.int .i64 t466) := (blk_cell BK471.out 1).trans rfl; have hczx132b471_2 : wx132i0.cell? ⟨gb471, 2, none⟩ = some (.slice Aoyi0 x472002_88.length coyi0) := (blk_cell BK471.out 2).trans rfl; have hczx132b471_3 : wx132i0.cell? ⟨gb471, 3, none⟩ = some (.int .i64 t470) := (blk_cell BK471.out 3).trans rfl; have hfzx132b471_0 := blk_frozen BK471.out 0; have hfzx132b471_1 := blk_frozen BK471.out 1; have hfzx132b471_2 := blk_frozen BK471.out 2; have hfzx132b471_3 := blk_frozen BK471.out 3; (try have hnbx132b460_459 := NB460_459.out); (try have hncx132b459_460 := NB459_460.out); (try have hczx132b460_0 : wx132i0.cell? ⟨gb460, 0, none⟩ = some (.int .i64 x461000_88) := (blk_cell BK460.out 0).trans rfl); (try have hczx132b460_1 : wx132i0.cell? ⟨gb460, 1, none⟩ = some (.int .i64 x461001_88) := (blk_cell BK460.out 1).trans rfl); (try have hczx132b460_2 : wx132i0.cell? ⟨gb460, 2, none⟩ = some (.slice none 0 0) := (blk_cell BK460.out 2).trans rfl); (try have hczx132b460_3 : wx132i0.cell? ⟨gb460, 3, none⟩ = some (.int .i64 x461003_88) := (blk_cell BK460.out 3).trans rfl); (try have hfzx132b460_0 := blk_frozen BK460.out 0); (try have hfzx132b460_1 := blk_frozen BK460.out 1); (try have hfzx132b460_2 := blk_frozen BK460.out 2); (try have hfzx132b460_3 := blk_frozen BK460.out 3)) | (go_at_call 47; (with_reducible refine (rialtoref08_end.calls t465 t466 _ _ x472002_88 t470 t492 _ ?side1 ?side2 A165.out).mono ?_); (case side1 => repeat (first | exact (Kd.R_reads' HO_472002.out).2.2 | (with_reducible refine Kd.C_alloc ?_ _) | (with_reducible refine Kd.C_drewN ?_ _) | (with_reducible refine Kd.C_drew ?_))); (case side2 => exact (Kd.R_reads' HO_472002.out).2.1); rintro e wyi0 ⟨rfl, hb⟩; have n0_ := Aside0.mk (Kd.R_below (by (with_reducible repeat (first | apply Kd.R_alloc | apply Kd.R_drewN | apply Kd.R_drew)); exact HO_472002.out) hb); have n1_ := Aside0.mk (blk_below (g := gb458) (o := .cells #[.int .i64 a0_0, .int .i64 a0_1, .slice A0_2 l0_2.length c0_2, .int .i64 a0_3] 26 (0, 0)) (by (with_reducible repeat (first | refine blk_drewN ?_ _ | refine blk_drew ?_ | refine blk_alloc ?_ _)); exact BK458.out) hb); have n2_ := Aside0.mk (blk_below (g := gb459) (o := .cells #[.int .i64 a1_0, .int .i64 a1_1] 23 (0, 0)) (by (with_reducible repeat (first | refine blk_drewN ?_ _ | refine blk_drew ?_ | refine blk_alloc ?_ _)); exact BK459.out) hb); have n3_ := Aside0.mk (blk_below (g := gb460) (o := .cells #[.int .i64 x461000_88, .int .i64 x461001_88, .slice none 0 0, .int .i64 x461003_88] 26 (0, 0)) (by (with_reducible repeat (first | refine blk_drewN ?_ _ | refine blk_drew ?_ | refine blk_alloc ?_ _)); exact BK460.out) hb); have n4_ := Aside0.mk (blk_below (g := gb471) (o := .cells #[.int .i64 t465, .int .i64 t466, .slice Aoyi0 x472002_88.length coyi0, .int .i64 t470] 26 (0, 0)) (by (with_reducible repeat (first | refine blk_drewN ?_ _ | refine blk_drew ?_ | refine blk_alloc ?_ _)); exact BK471.out) hb); have n5_ := Aside0.mk (below_step (by repeat (first | (with_reducible first | exact HB.out | apply below_alloc | apply pw_below_drewN | apply below_drew1 | refine below_set ?_ GE458.out | refine below_set ?_ GE459.out | refine below_set ?_ GE460.out | refine below_set ?_ GE471.out) | exact HB.out)) hb); clear HO_472002; clear BK458; clear BK459; clear BK460; clear BK471; clear HB; have HO_472002 := n0_; have BK458 := n1_; have BK459 := n2_; have BK460 := n3_; have BK471 := n4_; have HB := n5_; clear n0_ n1_ n2_ n3_ n4_ n5_; (try clear hb); (try clear hb2); (try clear hk); (try clear hi); have hnbyb460_459 := NB460_459.out; have hncyb459_460 := NB459_460.out; have hczyb460_0 : wyi0.cell? ⟨gb460, 0, none⟩ = some (.int .i64 x461000_88) := (blk_cell BK460.out 0).trans rfl; have hczyb460_1 : wyi0.cell? ⟨gb460, 1, none⟩ = some (.int .i64 x461001_88) := (blk_cell BK460.out 1).trans rfl; have hczyb460_2 : wyi0.cell? ⟨gb460, 2, none⟩ = some (.slice none 0 0) := (blk_cell BK460.out 2).trans rfl; have hczyb460_3 : wyi0.cell? ⟨gb460, 3, none⟩ = some (.int .i64 x461003_88) := (blk_cell BK460.out 3).trans rfl; have hfzyb460_0 := blk_frozen BK460.out 0; have hfzyb460_1 := blk_frozen BK460.out 1; have hfzyb460_2 := blk_frozen BK460.out 2; have hfzyb460_3 := blk_frozen BK460.out 3))
                      refine bodyPost_ret (results_list (rs := [.cell 8 26, .tmp 9, .tmp 10, .tmp 11]) rfl (by simp) (.cell gb460 26 #[.int .i64 0, .int .i64 0, .slice none 0 0, .int .i64 0] (0, 0) _ rfl (by (with_reducible repeat (first | refine blk_drewN ?_ _ | refine blk_drew ?_ | refine blk_alloc ?_ _)); refine blk_put (cs := #[.int .i64 0, .int .i64 0, .slice none 0 0, .int .i64 x461003_88]) ?_ 3 _ rfl; (with_reducible repeat (first | refine blk_drewN ?_ _ | refine blk_drew ?_ | refine blk_alloc ?_ _)); refine blk_put (cs := #[.int .i64 0, .int .i64 0, .slice none 0 0, .int .i64 x461003_88]) ?_ 2 _ rfl; (with_reducible repeat (first | refine blk_drewN ?_ _ | refine blk_drew ?_ | refine blk_alloc ?_ _)); refine blk_put (cs := #[.int .i64 0, .int .i64 x461001_88, .slice none 0 0, .int .i64 x461003_88]) ?_ 1 _ rfl; (with_reducible repeat (first | refine blk_drewN ?_ _ | refine blk_drew ?_ | refine blk_alloc ?_ _)); refine blk_put (cs := #[.int .i64 x461000_88, .int .i64 x461001_88, .slice none 0 0, .int .i64 x461003_88]) ?_ 0 _ rfl; (with_reducible repeat (first | refine blk_drewN ?_ _ | refine blk_drew ?_ | refine blk_alloc ?_ _)); exact BK460.out) Try.underlying26 rfl (by kernel_rfl) (.tmp (.tmp (.tmp .nil))))) rfl ?_
                      exact ⟨_, by first | rfl | (simp [errW_none, errW_some] <;> rfl) | (simp [*, errW_none, errW_some] <;> rfl), by first | exact Kd.R_nil _ _ _ _ _ | exact Kd.N_nil _ _ _ _ _ | exact Kd.V_nil _ _ _ _ _ | exact Kd.Q_nil _ _ _ _ _ | exact Kd.S_nil _ _ _ _ _, by repeat (first | (with_reducible first | exact HB.out | apply below_alloc | apply pw_below_drewN | apply below_drew1 | refine below_set ?_ GE458.out | refine below_set ?_ GE459.out | refine below_set ?_ GE460.out | refine below_set ?_ GE471.out) | exact HB.out)⟩
                  focus
                    (try rw [hji180] at A150)
                    (try rw [hji180] at A165)
                    have hji180_ : (if (wrap64 (a1_0 + (l2.length : Int))) < a3 then (wrap64 (a1_0 + (l2.length : Int))) else a3) = ji180 := hji180
                    obtain ⟨ji181, hji181⟩ : ∃ j_ : Int, (mx t470 (ji180)) = j_ := ⟨_, rfl⟩
                    replace H : (some (t465, t466, x472002_88, ji181, mx (wrap64 (a1_0 + (l2.length : Int))) a0_0, true, 0)) = some (r1, r2, r3, r4, r5, r6, r7) := by first | (rw [hji181] at H; exact H) | (simp only [hji181] at H ⊢; exact H)
                    (try rw [hji181] at A150)
                    (try rw [hji181] at A165)
                    have hji181_ : (if t470 < (ji180) then (ji180) else t470) = ji181 := hji181
                    obtain ⟨ji182, hji182⟩ : ∃ j_ : Int, (mx (wrap64 (a1_0 + (l2.length : Int))) a0_0) = j_ := ⟨_, rfl⟩
                    replace H : (some (t465, t466, x472002_88, ji181, ji182, true, 0)) = some (r1, r2, r3, r4, r5, r6, r7) := by first | (rw [hji182] at H; exact H) | (simp only [hji182] at H ⊢; exact H)
                    (try rw [hji182] at A150)
                    (try rw [hji182] at A165)
                    have hji182_ : (if (wrap64 (a1_0 + (l2.length : Int))) < a0_0 then a0_0 else (wrap64 (a1_0 + (l2.length : Int)))) = ji182 := hji182
                    simp only [Option.some.injEq, Prod.mk.injEq] at H
                    obtain ⟨rfl, rfl, rfl, rfl, rfl, rfl, rfl⟩ := H
                    have hnbyb471_458 := NB471_458.out
                    have hncyb458_471 := NB458_471.out
                    have hnbyb471_459 := NB471_459.out
                    have hncyb459_471 := NB459_471.out
                    have hnbyb471_460 := NB471_460.out
                    have hncyb460_471 := NB460_471.out
                    have hczyb471_0 : wc.cell? ⟨gb471, 0, none⟩ = some (.int .i64 t465) := (blk_cell BK471.out 0).trans rfl
                    have hczyb471_1 : wc.cell? ⟨gb471, 1, none⟩ = some (.int .i64 t466) := (blk_cell BK471.out 1).trans rfl
                    have hczyb471_2 : wc.cell? ⟨gb471, 2, none⟩ = some (u472002) := (blk_cell BK471.out 2).trans rfl
                    have hczyb471_3 : wc.cell? ⟨gb471, 3, none⟩ = some (.int .i64 t470) := (blk_cell BK471.out 3).trans rfl
                    have hfzyb471_0 := blk_frozen BK471.out 0
                    have hfzyb471_1 := blk_frozen BK471.out 1
                    have hfzyb471_2 := blk_frozen BK471.out 2
                    have hfzyb471_3 := blk_frozen BK471.out 3
                    have hnbyb458_459 := NB458_459.out
                    have hncyb459_458 := NB459_458.out
                    have hnbyb458_460 := NB458_460.out
                    have hncyb460_458 := NB460_458.out
                    have hczyb458_0 : wc.cell? ⟨gb458, 0, none⟩ = some (.int .i64 a0_0) := (blk_cell BK458.out 0).trans rfl
                    have hczyb458_1 : wc.cell? ⟨gb458, 1, none⟩ = some (.int .i64 a0_1) := (blk_cell BK458.out 1).trans rfl
                    have hczyb458_2 : wc.cell? ⟨gb458, 2, none⟩ = some (.slice A0_2 l0_2.length c0_2) := (blk_cell BK458.out 2).trans rfl
                    have hczyb458_3 : wc.cell? ⟨gb458, 3, none⟩ = some (.int .i64 a0_3) := (blk_cell BK458.out 3).trans rfl
                    have hfzyb458_0 := blk_frozen BK458.out 0
                    have hfzyb458_1 := blk_frozen BK458.out 1
                    have hfzyb458_2 := blk_frozen BK458.out 2
                    have hfzyb458_3 := blk_frozen BK458.out 3
                    obtain ⟨Aoyi0, coyi0, eoyi0⟩ := Kd.R_slice HO_472002.out
                    subst eoyi0
                    try go_wp2_with (first | ((with_reducible refine gate_callee (f := 46) rfl ?_); refine goesL_ (some 132) rfl rfl Try.func46 (by kernel_rfl) rfl #[.slice Aoyi0 x472002_88.length coyi0, .int .i64 a0_1] rfl (by (try simp only [List.map_toArray, List.map_cons, List.map_nil]); first | done | rfl | (simp only [List.length_drop, List.length_take]; rfl)) ?_; (with_reducible refine (rialtoref08_Rows.calls kj88 _ _ x472002_88 a0_1 _ _ ?side1 ?side2 A150.out).mono ?_); (case side1 => repeat (first | exact (Kd.R_reads' HO_472002.out).2.2 | (with_reducible refine Kd.C_alloc ?_ _) | (with_reducible refine Kd.C_drewN ?_ _) | (with_reducible refine Kd.C_drew ?_))); (case side2 => exact (Kd.R_reads' HO_472002.out).2.1); rintro e wx132i0 ⟨rfl, hb⟩; refine ⟨_, rfl, ?_⟩; have n0_ := Aside0.mk (Kd.R_below (by (with_reducible repeat (first | apply Kd.R_alloc | apply Kd.R_drewN | apply Kd.R_drew)); exact HO_472002.out) hb); have n1_ := Aside0.mk (blk_below (g := gb458) (o := .cells #[.int .i64 a0_0, .int .i64 a0_1, .slice A0_2 l0_2.length c0_2, .int .i64 a0_3] 26 (0, 0)) (by (with_reducible repeat (first | refine blk_drewN ?_ _ | refine blk_drew ?_ | refine blk_alloc ?_ _)); exact BK458.out) hb); have n2_ := Aside0.mk (blk_below (g := gb459) (o := .cells #[.int .i64 a1_0, .int .i64 a1_1] 23 (0, 0)) (by (with_reducible repeat (first | refine blk_drewN ?_ _ | refine blk_drew ?_ | refine blk_alloc ?_ _)); exact BK459.out) hb); have n3_ := Aside0.mk (blk_below (g := gb460) (o := .cells #[.int .i64 x461000_88, .int .i64 x461001_88, .slice none 0 0, .int .i64 x461003_88] 26 (0, 0)) (by (with_reducible repeat (first | refine blk_drewN ?_ _ | refine blk_drew ?_ | refine blk_alloc ?_ _)); exact BK460.out) hb); have n4_ := Aside0.mk (blk_below (g := gb471) (o := .cells #[.int .i64 t465, .int .i64 t466, .slice Aoyi0 x472002_88.length coyi0, .int .i64 t470] 26 (0, 0)) (by (with_reducible repeat (first | refine blk_drewN ?_ _ | refine blk_drew ?_ | refine blk_alloc ?_ _)); exact BK471.out) hb); have n5_ := Aside0.mk (below_step (by repeat (first | (with_reducible first | exact HB.out | apply below_alloc | apply pw_below_drewN | apply below_drew1 | refine below_set ?_ GE458.out | refine below_set ?_ GE459.out | refine below_set ?_ GE460.out | refine below_set ?_ GE471.out) | exact HB.out)) hb); clear HO_472002; clear BK458; clear BK459; clear BK460; clear BK471; clear HB; have HO_472002 := n0_; have BK458 := n1_; have BK459 := n2_; have BK460 := n3_; have BK471 := n4_; have HB := n5_; clear n0_ n1_ n2_ n3_ n4_ n5_; (try clear hb); (try clear hb2); (try clear hk); (try clear hi); have hczx132b471_0 : wx132i0.cell? ⟨gb471, 0, none⟩ = some (.int .i64 t465) := (blk_cell BK471.out 0).trans rfl; have hczx132b471_1 : wx132i0.cell? ⟨gb471, 1, none⟩ = some (.int .i64 t466) := (blk_cell BK471.out 1).trans rfl; have hczx132b471_2 : wx132i0.cell? ⟨gb471, 2, none⟩ = some (.slice Aoyi0 x472002_88.length coyi0) := (blk_cell BK471.out 2).trans rfl; have hczx132b471_3 : wx132i0.cell? ⟨gb471, 3, none⟩ = some (.int .i64 t470) := (blk_cell BK471.out 3).trans rfl; have hfzx132b471_0 := blk_frozen BK471.out 0; have hfzx132b471_1 := blk_frozen BK471.out 1; have hfzx132b471_2 := blk_frozen BK471.out 2; have hfzx132b471_3 := blk_frozen BK471.out 3) | (go_at_call 47; (with_reducible refine (rialtoref08_end.calls t465 t466 _ _ x472002_88 t470 t492 _ ?side1 ?side2 A165.out).mono ?_); (case side1 => repeat (first | exact (Kd.R_reads' HO_472002.out).2.2 | (with_reducible refine Kd.C_alloc ?_ _) | (with_reducible refine Kd.C_drewN ?_ _) | (with_reducible refine Kd.C_drew ?_))); (case side2 => exact (Kd.R_reads' HO_472002.out).2.1); rintro e wyi0 ⟨rfl, hb⟩; have n0_ := Aside0.mk (Kd.R_below (by (with_reducible repeat (first | apply Kd.R_alloc | apply Kd.R_drewN | apply Kd.R_drew)); exact HO_472002.out) hb); have n1_ := Aside0.mk (blk_below (g := gb458) (o := .cells #[.int .i64 a0_0, .int .i64 a0_1, .slice A0_2 l0_2.length c0_2, .int .i64 a0_3] 26 (0, 0)) (by (with_reducible repeat (first | refine blk_drewN ?_ _ | refine blk_drew ?_ | refine blk_alloc ?_ _)); exact BK458.out) hb); have n2_ := Aside0.mk (blk_below (g := gb459) (o := .cells #[.int .i64 a1_0, .int .i64 a1_1] 23 (0, 0)) (by (with_reducible repeat (first | refine blk_drewN ?_ _ | refine blk_drew ?_ | refine blk_alloc ?_ _)); exact BK459.out) hb); have n3_ := Aside0.mk (blk_below (g := gb460) (o := .cells #[.int .i64 x461000_88, .int .i64 x461001_88, .slice none 0 0, .int .i64 x461003_88] 26 (0, 0)) (by (with_reducible repeat (first | refine blk_drewN ?_ _ | refine blk_drew ?_ | refine blk_alloc ?_ _)); exact BK460.out) hb); have n4_ := Aside0.mk (blk_below (g := gb471) (o := .cells #[.int .i64 t465, .int .i64 t466, .slice Aoyi0 x472002_88.length coyi0, .int .i64 t470] 26 (0, 0)) (by (with_reducible repeat (first | refine blk_drewN ?_ _ | refine blk_drew ?_ | refine blk_alloc ?_ _)); exact BK471.out) hb); have n5_ := Aside0.mk (below_step (by repeat (first | (with_reducible first | exact HB.out | apply below_alloc | apply pw_below_drewN | apply below_drew1 | refine below_set ?_ GE458.out | refine below_set ?_ GE459.out | refine below_set ?_ GE460.out | refine below_set ?_ GE471.out) | exact HB.out)) hb); clear HO_472002; clear BK458; clear BK459; clear BK460; clear BK471; clear HB; have HO_472002 := n0_; have BK458 := n1_; have BK459 := n2_; have BK460 := n3_; have BK471 := n4_; have HB := n5_; clear n0_ n1_ n2_ n3_ n4_ n5_; (try clear hb); (try clear hb2); (try clear hk); (try clear hi); have hczyb471r2_0 : wyi0.cell? ⟨gb471, 0, none⟩ = some (.int .i64 t465) := (blk_cell BK471.out 0).trans rfl; have hczyb471r2_1 : wyi0.cell? ⟨gb471, 1, none⟩ = some (.int .i64 t466) := (blk_cell BK471.out 1).trans rfl; have hczyb471r2_2 : wyi0.cell? ⟨gb471, 2, none⟩ = some (.slice Aoyi0 x472002_88.length coyi0) := (blk_cell BK471.out 2).trans rfl; have hczyb471r2_3 : wyi0.cell? ⟨gb471, 3, none⟩ = some (.int .i64 t470) := (blk_cell BK471.out 3).trans rfl; have hfzyb471r2_0 := blk_frozen BK471.out 0; have hfzyb471r2_1 := blk_frozen BK471.out 1; have hfzyb471r2_2 := blk_frozen BK471.out 2; have hfzyb471r2_3 := blk_frozen BK471.out 3))
                    have n0_ : Aside0 (Kd.R k33 33 (wyi0.setCell ⟨gb471, 3, none⟩ (.int .i64 ji181)) w.heap.size (fun _ => True) (.slice Aoyi0 x472002_88.length coyi0) x472002_88) := ⟨by (with_reducible repeat (first | apply Kd.R_alloc | apply Kd.R_drewN | apply Kd.R_drew)); exact Kd.R_mono (Kd.R_far (p := ⟨gb471, 3, none⟩) (Kd.R_types HO_472002.out BK471.out (by decide)) (fun _ hk => hk.2) (.int .i64 ji181)) (fun _ hk => trivial)⟩
                    have n1_ : Aside0 ((wyi0.setCell ⟨gb471, 3, none⟩ (.int .i64 ji181)).heap[gb458]? = some (.cells #[.int .i64 a0_0, .int .i64 a0_1, .slice A0_2 l0_2.length c0_2, .int .i64 a0_3] 26 (0, 0))) := ⟨by (with_reducible repeat (first | refine blk_drewN ?_ _ | refine blk_drew ?_ | refine blk_alloc ?_ _)); refine blk_far ?_ NB458_471.out _; (with_reducible repeat (first | refine blk_drewN ?_ _ | refine blk_drew ?_ | refine blk_alloc ?_ _)); exact BK458.out⟩
                    have n2_ : Aside0 ((wyi0.setCell ⟨gb471, 3, none⟩ (.int .i64 ji181)).heap[gb459]? = some (.cells #[.int .i64 a1_0, .int .i64 a1_1] 23 (0, 0))) := ⟨by (with_reducible repeat (first | refine blk_drewN ?_ _ | refine blk_drew ?_ | refine blk_alloc ?_ _)); refine blk_far ?_ NB459_471.out _; (with_reducible repeat (first | refine blk_drewN ?_ _ | refine blk_drew ?_ | refine blk_alloc ?_ _)); exact BK459.out⟩
                    have n3_ : Aside0 ((wyi0.setCell ⟨gb471, 3, none⟩ (.int .i64 ji181)).heap[gb460]? = some (.cells #[.int .i64 x461000_88, .int .i64 x461001_88, .slice none 0 0, .int .i64 x461003_88] 26 (0, 0))) := ⟨by (with_reducible repeat (first | refine blk_drewN ?_ _ | refine blk_drew ?_ | refine blk_alloc ?_ _)); refine blk_far ?_ NB460_471.out _; (with_reducible repeat (first | refine blk_drewN ?_ _ | refine blk_drew ?_ | refine blk_alloc ?_ _)); exact BK460.out⟩
                    have n4_ : Aside0 ((wyi0.setCell ⟨gb471, 3, none⟩ (.int .i64 ji181)).heap[gb471]? = some (.cells #[.int .i64 t465, .int .i64 t466, .slice Aoyi0 x472002_88.length coyi0, .int .i64 ji181] 26 (0, 0))) := ⟨by (with_reducible repeat (first | refine blk_drewN ?_ _ | refine blk_drew ?_ | refine blk_alloc ?_ _)); refine blk_put (cs := #[.int .i64 t465, .int .i64 t466, .slice Aoyi0 x472002_88.length coyi0, .int .i64 t470]) ?_ 3 _ rfl; (with_reducible repeat (first | refine blk_drewN ?_ _ | refine blk_drew ?_ | refine blk_alloc ?_ _)); exact BK471.out⟩
                    have n5_ : Aside0 (Below w.heap.size w (wyi0.setCell ⟨gb471, 3, none⟩ (.int .i64 ji181))) := ⟨by repeat (first | (with_reducible first | exact HB.out | apply below_alloc | apply pw_below_drewN | apply below_drew1 | refine below_set ?_ GE458.out | refine below_set ?_ GE459.out | refine below_set ?_ GE460.out | refine below_set ?_ GE471.out) | exact HB.out)⟩
                    (try clear HO_472002)
                    (try clear BK458)
                    (try clear BK459)
                    (try clear BK460)
                    (try clear BK471)
                    (try clear HB)
                    generalize (wyi0.setCell ⟨gb471, 3, none⟩ (.int .i64 ji181)) = wyi1 at n0_ n1_ n2_ n3_ n4_ n5_ ⊢
                    have HO_472002 := n0_
                    have BK458 := n1_
                    have BK459 := n2_
                    have BK460 := n3_
                    have BK471 := n4_
                    have HB := n5_
                    clear n0_ n1_ n2_ n3_ n4_ n5_
                    have n0_ := Aside0.mk (Kd.R_drew HO_472002.out)
                    have n1_ := Aside0.mk (blk_drew BK458.out)
                    have n2_ := Aside0.mk (blk_drew BK459.out)
                    have n3_ := Aside0.mk (blk_drew BK460.out)
                    have n4_ := Aside0.mk (blk_drew BK471.out)
                    have n5_ := Aside0.mk (below_drew1 HB.out)
                    clear HO_472002
                    clear BK458
                    clear BK459
                    clear BK460
                    clear BK471
                    clear HB
                    have HO_472002 := n0_
                    have BK458 := n1_
                    have BK459 := n2_
                    have BK460 := n3_
                    have BK471 := n4_
                    have HB := n5_
                    clear n0_ n1_ n2_ n3_ n4_ n5_
                    refine start_ (n := 10) (S := fun w' => w'.cell? ⟨gb471, 0, none⟩ = some (.int .i64 t465) ∧ w'.cell? ⟨gb471, 1, none⟩ = some (.int .i64 t466) ∧ w'.cell? ⟨gb471, 2, none⟩ = some (.slice Aoyi0 x472002_88.length coyi0) ∧ w'.cell? ⟨gb471, 3, none⟩ = some (.int .i64 ji181) ∧ w'.cell? ⟨gb458, 0, none⟩ = some (.int .i64 a0_0) ∧ w'.cell? ⟨gb458, 1, none⟩ = some (.int .i64 a0_1) ∧ w'.cell? ⟨gb458, 2, none⟩ = some (.slice A0_2 l0_2.length c0_2) ∧ w'.cell? ⟨gb458, 3, none⟩ = some (.int .i64 a0_3)) (ds := []) #[false, false, false, false, false, false, false, false, false, false] (by kernel_rfl) rfl rfl ⟨(blk_cell BK471.out 0).trans rfl, (blk_cell BK471.out 1).trans rfl, (blk_cell BK471.out 2).trans rfl, (blk_cell BK471.out 3).trans rfl, (blk_cell BK458.out 0).trans rfl, (blk_cell BK458.out 1).trans rfl, (blk_cell BK458.out 2).trans rfl, (blk_cell BK458.out 3).trans rfl⟩ (fun hHeld => ?_); refine with_tabW rialtoref08_Accept.tab28 rialtoref08_Accept.bits28 (fun HT_ HW_ => ?_)
                    generalize wyi1.drew = wyi2 at HO_472002 BK458 BK459 BK460 BK471 HB hHeld ⊢
                    refine stepP HT_ 1 (some 153) ?_
                    refine stepP HT_ 2 (some 154) ?_
                    refine stepP HT_ 3 (some 155) ?_
                    refine stepT8 HT_ HW_ 0 (some 152) hHeld ?_
                    refine stepT8 HT_ HW_ 4 (some 156) hHeld ?_
                    refine stepP HT_ 5 (some 157) ?_
                    refine one_ (i := 6) (N := none) #[true, true, true, true, true, true, true, false, false, false] rfl rfl (one_of HT_.out (by kernel_rfl)) (by decide) (fun K hK => ?_)
                    have hs197 : wyi2.cell? ⟨gb460, 0, none⟩ = some (.int .i64 x461000_88) := (blk_cell BK460.out 0).trans rfl
                    have hfs197 := blk_frozen BK460.out 0
                    have hns197_0 := NB458_460.out
                    have hns197_1 := NB459_460.out
                    have hns197_3 := NB471_460.out
                    have hms197_0 := NB460_458.out
                    have hms197_1 := NB460_459.out
                    have hms197_3 := NB460_471.out
                    have hs198 : wyi2.cell? ⟨gb460, 1, none⟩ = some (.int .i64 x461001_88) := (blk_cell BK460.out 1).trans rfl
                    have hfs198 := blk_frozen BK460.out 1
                    have hns198_0 := NB458_460.out
                    have hns198_1 := NB459_460.out
                    have hns198_3 := NB471_460.out
                    have hms198_0 := NB460_458.out
                    have hms198_1 := NB460_459.out
                    have hms198_3 := NB460_471.out
                    have hs199 : wyi2.cell? ⟨gb460, 2, none⟩ = some (.slice none 0 0) := (blk_cell BK460.out 2).trans rfl
                    have hfs199 := blk_frozen BK460.out 2
                    have hns199_0 := NB458_460.out
                    have hns199_1 := NB459_460.out
                    have hns199_3 := NB471_460.out
                    have hms199_0 := NB460_458.out
                    have hms199_1 := NB460_459.out
                    have hms199_3 := NB460_471.out
                    have hs200 : wyi2.cell? ⟨gb460, 3, none⟩ = some (.int .i64 x461003_88) := (blk_cell BK460.out 3).trans rfl
                    have hfs200 := blk_frozen BK460.out 3
                    have hns200_0 := NB458_460.out
                    have hns200_1 := NB459_460.out
                    have hns200_3 := NB471_460.out
                    have hms200_0 := NB460_458.out
                    have hms200_1 := NB460_459.out
                    have hms200_3 := NB460_471.out
                    refine skip_ (w1 := ?_) (by rfl) rfl ?_ ?_
                    rotate_left
                    · go_simp
                      rfl
                    refine hK.out _ _ ⟨((cell_far (p := ⟨gb460, _, none⟩) NB471_460.out _).trans (((cell_far (p := ⟨gb460, _, none⟩) NB471_460.out _).trans (((cell_far (p := ⟨gb460, _, none⟩) NB471_460.out _).trans (((cell_far (p := ⟨gb460, _, none⟩) NB471_460.out _).trans (hHeld.1)))))))), ((cell_far (p := ⟨gb460, _, none⟩) NB471_460.out _).trans (((cell_far (p := ⟨gb460, _, none⟩) NB471_460.out _).trans (((cell_far (p := ⟨gb460, _, none⟩) NB471_460.out _).trans (((cell_far (p := ⟨gb460, _, none⟩) NB471_460.out _).trans (hHeld.2.1)))))))), ((cell_far (p := ⟨gb460, _, none⟩) NB471_460.out _).trans (((cell_far (p := ⟨gb460, _, none⟩) NB471_460.out _).trans (((cell_far (p := ⟨gb460, _, none⟩) NB471_460.out _).trans (((cell_far (p := ⟨gb460, _, none⟩) NB471_460.out _).trans (hHeld.2.2.1)))))))), ((cell_far (p := ⟨gb460, _, none⟩) NB471_460.out _).trans (((cell_far (p := ⟨gb460, _, none⟩) NB471_460.out _).trans (((cell_far (p := ⟨gb460, _, none⟩) NB471_460.out _).trans (((cell_far (p := ⟨gb460, _, none⟩) NB471_460.out _).trans (hHeld.2.2.2.1)))))))), ((cell_far (p := ⟨gb460, _, none⟩) NB458_460.out _).trans (((cell_far (p := ⟨gb460, _, none⟩) NB458_460.out _).trans (((cell_far (p := ⟨gb460, _, none⟩) NB458_460.out _).trans (((cell_far (p := ⟨gb460, _, none⟩) NB458_460.out _).trans (hHeld.2.2.2.2.1)))))))), ((cell_far (p := ⟨gb460, _, none⟩) NB458_460.out _).trans (((cell_far (p := ⟨gb460, _, none⟩) NB458_460.out _).trans (((cell_far (p := ⟨gb460, _, none⟩) NB458_460.out _).trans (((cell_far (p := ⟨gb460, _, none⟩) NB458_460.out _).trans (hHeld.2.2.2.2.2.1)))))))), ((cell_far (p := ⟨gb460, _, none⟩) NB458_460.out _).trans (((cell_far (p := ⟨gb460, _, none⟩) NB458_460.out _).trans (((cell_far (p := ⟨gb460, _, none⟩) NB458_460.out _).trans (((cell_far (p := ⟨gb460, _, none⟩) NB458_460.out _).trans (hHeld.2.2.2.2.2.2.1)))))))), ((cell_far (p := ⟨gb460, _, none⟩) NB458_460.out _).trans (((cell_far (p := ⟨gb460, _, none⟩) NB458_460.out _).trans (((cell_far (p := ⟨gb460, _, none⟩) NB458_460.out _).trans (((cell_far (p := ⟨gb460, _, none⟩) NB458_460.out _).trans (hHeld.2.2.2.2.2.2.2))))))))⟩ (fun hHeld => ?_)
                    clear hK K
                    refine stepP HT_ 7 (some 9) ?_
                    refine stepP HT_ 8 (some 10) ?_
                    refine stepP HT_ 9 (some 11) ?_
                    refine done_ (done_of HT_.out (by kernel_rfl)) ?_
                    try go_wp2
                    refine bodyPost_ret (results_list (rs := [.cell 8 26, .tmp 9, .tmp 10, .tmp 11]) rfl (by simp) (.cell gb460 26 #[.int .i64 t465, .int .i64 t466, .slice Aoyi0 x472002_88.length coyi0, .int .i64 ji181] (0, 0) _ rfl (by (with_reducible repeat (first | refine blk_drewN ?_ _ | refine blk_drew ?_ | refine blk_alloc ?_ _)); refine blk_put (cs := #[.int .i64 t465, .int .i64 t466, .slice Aoyi0 x472002_88.length coyi0, .int .i64 x461003_88]) ?_ 3 _ rfl; (with_reducible repeat (first | refine blk_drewN ?_ _ | refine blk_drew ?_ | refine blk_alloc ?_ _)); refine blk_put (cs := #[.int .i64 t465, .int .i64 t466, .slice none 0 0, .int .i64 x461003_88]) ?_ 2 _ rfl; (with_reducible repeat (first | refine blk_drewN ?_ _ | refine blk_drew ?_ | refine blk_alloc ?_ _)); refine blk_put (cs := #[.int .i64 t465, .int .i64 x461001_88, .slice none 0 0, .int .i64 x461003_88]) ?_ 1 _ rfl; (with_reducible repeat (first | refine blk_drewN ?_ _ | refine blk_drew ?_ | refine blk_alloc ?_ _)); refine blk_put (cs := #[.int .i64 x461000_88, .int .i64 x461001_88, .slice none 0 0, .int .i64 x461003_88]) ?_ 0 _ rfl; (with_reducible repeat (first | refine blk_drewN ?_ _ | refine blk_drew ?_ | refine blk_alloc ?_ _)); exact BK460.out) Try.underlying26 rfl (by kernel_rfl) (.tmp (.tmp (.tmp .nil))))) rfl ?_
                    exact ⟨_, by first | rfl | (simp [errW_none, errW_some] <;> rfl) | (simp only [← hji180, ← hji181, ← hji182]; first | rfl | (simp [errW_none, errW_some] <;> rfl)) | (simp [*, errW_none, errW_some] <;> rfl), by (with_reducible repeat (first | apply Kd.R_alloc | apply Kd.R_drewN | apply Kd.R_drew)); exact Kd.R_mono (Kd.R_far (p := ⟨gb460, 3, none⟩) (Kd.R_far (p := ⟨gb460, 2, none⟩) (Kd.R_far (p := ⟨gb460, 1, none⟩) (Kd.R_far (p := ⟨gb460, 0, none⟩) (Kd.R_types HO_472002.out BK460.out (by decide)) (fun _ hk => hk.2) (.int .i64 t465)) (fun _ hk => hk.2) (.int .i64 t466)) (fun _ hk => hk.2) (.slice Aoyi0 x472002_88.length coyi0)) (fun _ hk => hk.2) (.int .i64 ji181)) (fun _ hk => trivial), by repeat (first | (with_reducible first | exact HB.out | apply below_alloc | apply pw_below_drewN | apply below_drew1 | refine below_set ?_ GE458.out | refine below_set ?_ GE459.out | refine below_set ?_ GE460.out | refine below_set ?_ GE471.out) | exact HB.out)⟩
                  focus
                    simp only [Option.some.injEq, Prod.mk.injEq] at H
                    obtain ⟨rfl, rfl, rfl, rfl, rfl, rfl, rfl⟩ := H
                    have hnbyb471_458 := NB471_458.out
                    have hncyb458_471 := NB458_471.out
                    have hnbyb471_459 := NB471_459.out
                    have hncyb459_471 := NB459_471.out
                    have hnbyb471_460 := NB471_460.out
                    have hncyb460_471 := NB460_471.out
                    have hczyb471_0 : wc.cell? ⟨gb471, 0, none⟩ = some (.int .i64 t465) := (blk_cell BK471.out 0).trans rfl
                    have hczyb471_1 : wc.cell? ⟨gb471, 1, none⟩ = some (.int .i64 t466) := (blk_cell BK471.out 1).trans rfl
                    have hczyb471_2 : wc.cell? ⟨gb471, 2, none⟩ = some (u472002) := (blk_cell BK471.out 2).trans rfl
                    have hczyb471_3 : wc.cell? ⟨gb471, 3, none⟩ = some (.int .i64 t470) := (blk_cell BK471.out 3).trans rfl
                    have hfzyb471_0 := blk_frozen BK471.out 0
                    have hfzyb471_1 := blk_frozen BK471.out 1
                    have hfzyb471_2 := blk_frozen BK471.out 2
                    have hfzyb471_3 := blk_frozen BK471.out 3
                    have hnbyb458_459 := NB458_459.out
                    have hncyb459_458 := NB459_458.out
                    have hnbyb458_460 := NB458_460.out
                    have hncyb460_458 := NB460_458.out
                    have hczyb458_0 : wc.cell? ⟨gb458, 0, none⟩ = some (.int .i64 a0_0) := (blk_cell BK458.out 0).trans rfl
                    have hczyb458_1 : wc.cell? ⟨gb458, 1, none⟩ = some (.int .i64 a0_1) := (blk_cell BK458.out 1).trans rfl
                    have hczyb458_2 : wc.cell? ⟨gb458, 2, none⟩ = some (.slice A0_2 l0_2.length c0_2) := (blk_cell BK458.out 2).trans rfl
                    have hczyb458_3 : wc.cell? ⟨gb458, 3, none⟩ = some (.int .i64 a0_3) := (blk_cell BK458.out 3).trans rfl
                    have hfzyb458_0 := blk_frozen BK458.out 0
                    have hfzyb458_1 := blk_frozen BK458.out 1
                    have hfzyb458_2 := blk_frozen BK458.out 2
                    have hfzyb458_3 := blk_frozen BK458.out 3
                    obtain ⟨Aoyi0, coyi0, eoyi0⟩ := Kd.R_slice HO_472002.out
                    subst eoyi0
                    go_wp2_with (first | ((with_reducible refine gate_callee (f := 46) rfl ?_); refine goesL_ (some 132) rfl rfl Try.func46 (by kernel_rfl) rfl #[.slice Aoyi0 x472002_88.length coyi0, .int .i64 a0_1] rfl (by (try simp only [List.map_toArray, List.map_cons, List.map_nil]); first | done | rfl | (simp only [List.length_drop, List.length_take]; rfl)) ?_; (with_reducible refine (rialtoref08_Rows.calls kj88 _ _ x472002_88 a0_1 _ _ ?side1 ?side2 A150.out).mono ?_); (case side1 => repeat (first | exact (Kd.R_reads' HO_472002.out).2.2 | (with_reducible refine Kd.C_alloc ?_ _) | (with_reducible refine Kd.C_drewN ?_ _) | (with_reducible refine Kd.C_drew ?_))); (case side2 => exact (Kd.R_reads' HO_472002.out).2.1); rintro e wx132i0 ⟨rfl, hb⟩; refine ⟨_, rfl, ?_⟩; have n0_ := Aside0.mk (Kd.R_below (by (with_reducible repeat (first | apply Kd.R_alloc | apply Kd.R_drewN | apply Kd.R_drew)); exact HO_472002.out) hb); have n1_ := Aside0.mk (blk_below (g := gb458) (o := .cells #[.int .i64 a0_0, .int .i64 a0_1, .slice A0_2 l0_2.length c0_2, .int .i64 a0_3] 26 (0, 0)) (by (with_reducible repeat (first | refine blk_drewN ?_ _ | refine blk_drew ?_ | refine blk_alloc ?_ _)); exact BK458.out) hb); have n2_ := Aside0.mk (blk_below (g := gb459) (o := .cells #[.int .i64 a1_0, .int .i64 a1_1] 23 (0, 0)) (by (with_reducible repeat (first | refine blk_drewN ?_ _ | refine blk_drew ?_ | refine blk_alloc ?_ _)); exact BK459.out) hb); have n3_ := Aside0.mk (blk_below (g := gb460) (o := .cells #[.int .i64 x461000_88, .int .i64 x461001_88, .slice none 0 0, .int .i64 x461003_88] 26 (0, 0)) (by (with_reducible repeat (first | refine blk_drewN ?_ _ | refine blk_drew ?_ | refine blk_alloc ?_ _)); exact BK460.out) hb); have n4_ := Aside0.mk (blk_below (g := gb471) (o := .cells #[.int .i64 t465, .int .i64 t466, .slice Aoyi0 x472002_88.length coyi0, .int .i64 t470] 26 (0, 0)) (by (with_reducible repeat (first | refine blk_drewN ?_ _ | refine blk_drew ?_ | refine blk_alloc ?_ _)); exact BK471.out) hb); have n5_ := Aside0.mk (below_step (by repeat (first | (with_reducible first | exact HB.out | apply below_alloc | apply pw_below_drewN | apply below_drew1 | refine below_set ?_ GE458.out | refine below_set ?_ GE459.out | refine below_set ?_ GE460.out | refine below_set ?_ GE471.out) | exact HB.out)) hb); clear HO_472002; clear BK458; clear BK459; clear BK460; clear BK471; clear HB; have HO_472002 := n0_; have BK458 := n1_; have BK459 := n2_; have BK460 := n3_; have BK471 := n4_; have HB := n5_; clear n0_ n1_ n2_ n3_ n4_ n5_; (try clear hb); (try clear hb2); (try clear hk); (try clear hi); have hnbx132b460_459 := NB460_459.out; have hncx132b459_460 := NB459_460.out; have hczx132b460_0 : wx132i0.cell? ⟨gb460, 0, none⟩ = some (.int .i64 x461000_88) := (blk_cell BK460.out 0).trans rfl; have hczx132b460_1 : wx132i0.cell? ⟨gb460, 1, none⟩ = some (.int .i64 x461001_88) := (blk_cell BK460.out 1).trans rfl; have hczx132b460_2 : wx132i0.cell? ⟨gb460, 2, none⟩ = some (.slice none 0 0) := (blk_cell BK460.out 2).trans rfl; have hczx132b460_3 : wx132i0.cell? ⟨gb460, 3, none⟩ = some (.int .i64 x461003_88) := (blk_cell BK460.out 3).trans rfl; have hfzx132b460_0 := blk_frozen BK460.out 0; have hfzx132b460_1 := blk_frozen BK460.out 1; have hfzx132b460_2 := blk_frozen BK460.out 2; have hfzx132b460_3 := blk_frozen BK460.out 3))
                    refine bodyPost_ret (results_list (rs := [.cell 8 26, .tmp 9, .tmp 10, .tmp 11]) rfl (by simp) (.cell gb460 26 #[.int .i64 0, .int .i64 0, .slice none 0 0, .int .i64 0] (0, 0) _ rfl (by (with_reducible repeat (first | refine blk_drewN ?_ _ | refine blk_drew ?_ | refine blk_alloc ?_ _)); refine blk_put (cs := #[.int .i64 0, .int .i64 0, .slice none 0 0, .int .i64 x461003_88]) ?_ 3 _ rfl; (with_reducible repeat (first | refine blk_drewN ?_ _ | refine blk_drew ?_ | refine blk_alloc ?_ _)); refine blk_put (cs := #[.int .i64 0, .int .i64 0, .slice none 0 0, .int .i64 x461003_88]) ?_ 2 _ rfl; (with_reducible repeat (first | refine blk_drewN ?_ _ | refine blk_drew ?_ | refine blk_alloc ?_ _)); refine blk_put (cs := #[.int .i64 0, .int .i64 x461001_88, .slice none 0 0, .int .i64 x461003_88]) ?_ 1 _ rfl; (with_reducible repeat (first | refine blk_drewN ?_ _ | refine blk_drew ?_ | refine blk_alloc ?_ _)); refine blk_put (cs := #[.int .i64 x461000_88, .int .i64 x461001_88, .slice none 0 0, .int .i64 x461003_88]) ?_ 0 _ rfl; (with_reducible repeat (first | refine blk_drewN ?_ _ | refine blk_drew ?_ | refine blk_alloc ?_ _)); exact BK460.out) Try.underlying26 rfl (by kernel_rfl) (.tmp (.tmp (.tmp .nil))))) rfl ?_
                    exact ⟨_, by first | rfl | (simp [errW_none, errW_some] <;> rfl) | (simp [*, errW_none, errW_some] <;> rfl), by first | exact Kd.R_nil _ _ _ _ _ | exact Kd.N_nil _ _ _ _ _ | exact Kd.V_nil _ _ _ _ _ | exact Kd.Q_nil _ _ _ _ _ | exact Kd.S_nil _ _ _ _ _, by repeat (first | (with_reducible first | exact HB.out | apply below_alloc | apply pw_below_drewN | apply below_drew1 | refine below_set ?_ GE458.out | refine below_set ?_ GE459.out | refine below_set ?_ GE460.out | refine below_set ?_ GE471.out) | exact HB.out)⟩
  · rw [if_neg c6] at H
    have c6b0 : (t461 == 0) = false := beq_eq_false_iff_ne.mpr c6
    have c6b1 : (t461 != 0) = true := bne_iff_ne.mpr c6
    simp only [Option.some.injEq, Prod.mk.injEq] at H
    obtain ⟨rfl, rfl, rfl, rfl, rfl, rfl, rfl⟩ := H
    go_enter Try.func21, Try.ntmps21
    go_wp2_with (first | ((with_reducible refine gate_dst (N := 4) rfl ?_); refine box_event ?hg (N := 4) ?hd (cs := #[.int .i64 a0_0, .int .i64 a0_1, .slice A0_2 l0_2.length c0_2, .int .i64 a0_3]) (t := 26) ?hr ?_; (case hd => rfl); (case hg => rfl); (case hr => first | (go_simp; done) | (go_simp; rfl)); intro gb458 hg w212 hbox hb; have n0_ := Aside0.mk (below_step (by repeat (first | (with_reducible first | exact HB.out | apply below_alloc | apply pw_below_drewN | apply below_drew1) | exact HB.out)) hb); have n1_ := Aside0.mk (hbox); have n2_ := Aside0.mk ((by rw [hg]; exact (below_size (by repeat (first | (with_reducible first | exact HB.out | apply below_alloc | apply pw_below_drewN | apply below_drew1) | exact HB.out))) : w.heap.size ≤ gb458)); have n3_ := Aside0.mk ((by rw [hg]; exact (below_size (by repeat (first | (with_reducible first | exact HB.out | apply below_alloc | apply pw_below_drewN | apply below_drew1) | exact HB.out))) : w.heap.size ≤ gb458)); clear HB; have HB := n0_; have BK458 := n1_; have GW458 := n2_; have GE458 := n3_; clear n0_ n1_ n2_ n3_; clear hb hbox hg) | ((with_reducible refine gate_dst (N := 5) rfl ?_); refine box_event ?hg (N := 5) ?hd (cs := #[.int .i64 a1_0, .int .i64 a1_1]) (t := 23) ?hr ?_; (case hd => rfl); (case hg => rfl); (case hr => first | (go_simp; done) | (go_simp; rfl)); intro gb459 hg w213 hbox hb; have n0_ := Aside0.mk (blk_below (g := gb458) (o := .cells #[.int .i64 a0_0, .int .i64 a0_1, .slice A0_2 l0_2.length c0_2, .int .i64 a0_3] 26 (0, 0)) (by (with_reducible repeat (first | refine blk_drewN ?_ _ | refine blk_drew ?_ | refine blk_alloc ?_ _)); exact BK458.out) hb); have n1_ := Aside0.mk (below_step (by repeat (first | (with_reducible first | exact HB.out | apply below_alloc | apply pw_below_drewN | apply below_drew1 | refine below_set ?_ GE458.out) | exact HB.out)) hb); have n2_ := Aside0.mk (hbox); have n3_ := Aside0.mk ((by rw [hg]; exact (below_size (by repeat (first | (with_reducible first | exact HB.out | apply below_alloc | apply pw_below_drewN | apply below_drew1 | refine below_set ?_ GE458.out) | exact HB.out))) : w.heap.size ≤ gb459)); have n4_ := Aside0.mk ((by rw [hg]; exact (below_size (by repeat (first | (with_reducible first | exact HB.out | apply below_alloc | apply pw_below_drewN | apply below_drew1 | refine below_set ?_ GE458.out) | exact HB.out))) : w.heap.size ≤ gb459)); have n5_ := Aside0.mk ((by rw [hg]; exact Nat.ne_of_lt (blk_lt (g := gb458) (o := .cells #[.int .i64 a0_0, .int .i64 a0_1, .slice A0_2 l0_2.length c0_2, .int .i64 a0_3] 26 (0, 0)) (by (with_reducible repeat (first | refine blk_drewN ?_ _ | refine blk_drew ?_ | refine blk_alloc ?_ _)); exact BK458.out)) : gb458 ≠ gb459)); have n6_ := Aside0.mk ((by rw [hg]; exact Nat.ne_of_gt (blk_lt (g := gb458) (o := .cells #[.int .i64 a0_0, .int .i64 a0_1, .slice A0_2 l0_2.length c0_2, .int .i64 a0_3] 26 (0, 0)) (by (with_reducible repeat (first | refine blk_drewN ?_ _ | refine blk_drew ?_ | refine blk_alloc ?_ _)); exact BK458.out)) : gb459 ≠ gb458)); clear BK458; clear HB; have BK458 := n0_; have HB := n1_; have BK459 := n2_; have GW459 := n3_; have GE459 := n4_; have NB458_459 := n5_; have NB459_458 := n6_; clear n0_ n1_ n2_ n3_ n4_ n5_ n6_; clear hb hbox hg) | ((with_reducible refine gate_dst (N := 8) rfl ?_); refine box_event ?hg (N := 8) ?hd (cs := #[.int .i64 0, .int .i64 0, .slice none 0 0, .int .i64 0]) (t := 26) ?hr ?_; (case hd => rfl); (case hg => rfl); (case hr => first | (go_simp; done) | (go_simp; rfl)); intro gb460 hg w214 hbox hb; have n0_ := Aside0.mk (blk_below (g := gb458) (o := .cells #[.int .i64 a0_0, .int .i64 a0_1, .slice A0_2 l0_2.length c0_2, .int .i64 a0_3] 26 (0, 0)) (by (with_reducible repeat (first | refine blk_drewN ?_ _ | refine blk_drew ?_ | refine blk_alloc ?_ _)); exact BK458.out) hb); have n1_ := Aside0.mk (blk_below (g := gb459) (o := .cells #[.int .i64 a1_0, .int .i64 a1_1] 23 (0, 0)) (by (with_reducible repeat (first | refine blk_drewN ?_ _ | refine blk_drew ?_ | refine blk_alloc ?_ _)); exact BK459.out) hb); have n2_ := Aside0.mk (below_step (by repeat (first | (with_reducible first | exact HB.out | apply below_alloc | apply pw_below_drewN | apply below_drew1 | refine below_set ?_ GE458.out | refine below_set ?_ GE459.out) | exact HB.out)) hb); have n3_ := Aside0.mk (hbox); have n4_ := Aside0.mk ((by rw [hg]; exact (below_size (by repeat (first | (with_reducible first | exact HB.out | apply below_alloc | apply pw_below_drewN | apply below_drew1 | refine below_set ?_ GE458.out | refine below_set ?_ GE459.out) | exact HB.out))) : w.heap.size ≤ gb460)); have n5_ := Aside0.mk ((by rw [hg]; exact (below_size (by repeat (first | (with_reducible first | exact HB.out | apply below_alloc | apply pw_below_drewN | apply below_drew1 | refine below_set ?_ GE458.out | refine below_set ?_ GE459.out) | exact HB.out))) : w.heap.size ≤ gb460)); have n6_ := Aside0.mk ((by rw [hg]; exact Nat.ne_of_lt (blk_lt (g := gb458) (o := .cells #[.int .i64 a0_0, .int .i64 a0_1, .slice A0_2 l0_2.length c0_2, .int .i64 a0_3] 26 (0, 0)) (by (with_reducible repeat (first | refine blk_drewN ?_ _ | refine blk_drew ?_ | refine blk_alloc ?_ _)); exact BK458.out)) : gb458 ≠ gb460)); have n7_ := Aside0.mk ((by rw [hg]; exact Nat.ne_of_gt (blk_lt (g := gb458) (o := .cells #[.int .i64 a0_0, .int .i64 a0_1, .slice A0_2 l0_2.length c0_2, .int .i64 a0_3] 26 (0, 0)) (by (with_reducible repeat (first | refine blk_drewN ?_ _ | refine blk_drew ?_ | refine blk_alloc ?_ _)); exact BK458.out)) : gb460 ≠ gb458)); have n8_ := Aside0.mk ((by rw [hg]; exact Nat.ne_of_lt (blk_lt (g := gb459) (o := .cells #[.int .i64 a1_0, .int .i64 a1_1] 23 (0, 0)) (by (with_reducible repeat (first | refine blk_drewN ?_ _ | refine blk_drew ?_ | refine blk_alloc ?_ _)); exact BK459.out)) : gb459 ≠ gb460)); have n9_ := Aside0.mk ((by rw [hg]; exact Nat.ne_of_gt (blk_lt (g := gb459) (o := .cells #[.int .i64 a1_0, .int .i64 a1_1] 23 (0, 0)) (by (with_reducible repeat (first | refine blk_drewN ?_ _ | refine blk_drew ?_ | refine blk_alloc ?_ _)); exact BK459.out)) : gb460 ≠ gb459)); clear BK458; clear BK459; clear HB; have BK458 := n0_; have BK459 := n1_; have HB := n2_; have BK460 := n3_; have GW460 := n4_; have GE460 := n5_; have NB458_460 := n6_; have NB460_458 := n7_; have NB459_460 := n8_; have NB460_459 := n9_; clear n0_ n1_ n2_ n3_ n4_ n5_ n6_ n7_ n8_ n9_; clear hb hbox hg; have hnb215 := NB458_459.out; have hnc215 := NB459_458.out; have hnb216 := NB458_460.out; have hnc216 := NB460_458.out; have hcz217_0 : w214.cell? ⟨gb458, 0, none⟩ = some (.int .i64 a0_0) := (blk_cell BK458.out 0).trans rfl; have hcz217_1 : w214.cell? ⟨gb458, 1, none⟩ = some (.int .i64 a0_1) := (blk_cell BK458.out 1).trans rfl; have hcz217_2 : w214.cell? ⟨gb458, 2, none⟩ = some (.slice A0_2 l0_2.length c0_2) := (blk_cell BK458.out 2).trans rfl; have hcz217_3 : w214.cell? ⟨gb458, 3, none⟩ = some (.int .i64 a0_3) := (blk_cell BK458.out 3).trans rfl; have hfz217_0 := blk_frozen BK458.out 0; have hfz217_1 := blk_frozen BK458.out 1; have hfz217_2 := blk_frozen BK458.out 2; have hfz217_3 := blk_frozen BK458.out 3) | ((with_reducible refine gate_callee (f := 31) rfl ?_); refine goesL_ (some 21) rfl rfl Try.func31 (by kernel_rfl) rfl #[.agg #[.int .i64 a0_0, .int .i64 a0_1, .slice A0_2 l0_2.length c0_2, .int .i64 a0_3]] rfl (by (try simp only [List.map_toArray, List.map_cons, List.map_nil]); first | done | rfl | (simp only [List.length_drop, List.length_take]; rfl)) ?_; (with_reducible refine (rialtoref08_Check.calls k a0_0 a0_1 _ _ l0_2 a0_3 t461 _ ?side1 ?side2 A5.out).mono ?_); (case side1 => repeat (first | exact (Kd.C_below HR0_2.out HB.out) | (with_reducible refine Kd.C_alloc ?_ _) | (with_reducible refine Kd.C_drewN ?_ _) | (with_reducible refine Kd.C_drew ?_))); (case side2 => exact HC0_2.out); rintro e w218 ⟨rfl, hb⟩; refine ⟨_, rfl, ?_⟩; have n0_ := Aside0.mk (blk_below (g := gb458) (o := .cells #[.int .i64 a0_0, .int .i64 a0_1, .slice A0_2 l0_2.length c0_2, .int .i64 a0_3] 26 (0, 0)) (by (with_reducible repeat (first | refine blk_drewN ?_ _ | refine blk_drew ?_ | refine blk_alloc ?_ _)); exact BK458.out) hb); have n1_ := Aside0.mk (blk_below (g := gb459) (o := .cells #[.int .i64 a1_0, .int .i64 a1_1] 23 (0, 0)) (by (with_reducible repeat (first | refine blk_drewN ?_ _ | refine blk_drew ?_ | refine blk_alloc ?_ _)); exact BK459.out) hb); have n2_ := Aside0.mk (blk_below (g := gb460) (o := .cells #[.int .i64 0, .int .i64 0, .slice none 0 0, .int .i64 0] 26 (0, 0)) (by (with_reducible repeat (first | refine blk_drewN ?_ _ | refine blk_drew ?_ | refine blk_alloc ?_ _)); exact BK460.out) hb); have n3_ := Aside0.mk (below_step (by repeat (first | (with_reducible first | exact HB.out | apply below_alloc | apply pw_below_drewN | apply below_drew1 | refine below_set ?_ GE458.out | refine below_set ?_ GE459.out | refine below_set ?_ GE460.out) | exact HB.out)) hb); clear BK458; clear BK459; clear BK460; clear HB; have BK458 := n0_; have BK459 := n1_; have BK460 := n2_; have HB := n3_; clear n0_ n1_ n2_ n3_; (try clear hb); (try clear hb2); (try clear hk); (try clear hi); have hnb219 := NB460_459.out; have hnc219 := NB459_460.out; have hcz220_0 : w218.cell? ⟨gb460, 0, none⟩ = some (.int .i64 0) := (blk_cell BK460.out 0).trans rfl; have hcz220_1 : w218.cell? ⟨gb460, 1, none⟩ = some (.int .i64 0) := (blk_cell BK460.out 1).trans rfl; have hcz220_2 : w218.cell? ⟨gb460, 2, none⟩ = some (.slice none 0 0) := (blk_cell BK460.out 2).trans rfl; have hcz220_3 : w218.cell? ⟨gb460, 3, none⟩ = some (.int .i64 0) := (blk_cell BK460.out 3).trans rfl; have hfz220_0 := blk_frozen BK460.out 0; have hfz220_1 := blk_frozen BK460.out 1; have hfz220_2 := blk_frozen BK460.out 2; have hfz220_3 := blk_frozen BK460.out 3))
    refine bodyPost_ret (results_list (rs := [.cell 8 26, .tmp 9, .tmp 10, .tmp 11]) rfl (by simp) (.cell gb460 26 #[.int .i64 0, .int .i64 0, .slice none 0 0, .int .i64 0] (0, 0) _ rfl (by (with_reducible repeat (first | refine blk_drewN ?_ _ | refine blk_drew ?_ | refine blk_alloc ?_ _)); refine blk_put (cs := #[.int .i64 0, .int .i64 0, .slice none 0 0, .int .i64 0]) ?_ 3 _ rfl; (with_reducible repeat (first | refine blk_drewN ?_ _ | refine blk_drew ?_ | refine blk_alloc ?_ _)); refine blk_put (cs := #[.int .i64 0, .int .i64 0, .slice none 0 0, .int .i64 0]) ?_ 2 _ rfl; (with_reducible repeat (first | refine blk_drewN ?_ _ | refine blk_drew ?_ | refine blk_alloc ?_ _)); refine blk_put (cs := #[.int .i64 0, .int .i64 0, .slice none 0 0, .int .i64 0]) ?_ 1 _ rfl; (with_reducible repeat (first | refine blk_drewN ?_ _ | refine blk_drew ?_ | refine blk_alloc ?_ _)); refine blk_put (cs := #[.int .i64 0, .int .i64 0, .slice none 0 0, .int .i64 0]) ?_ 0 _ rfl; (with_reducible repeat (first | refine blk_drewN ?_ _ | refine blk_drew ?_ | refine blk_alloc ?_ _)); exact BK460.out) Try.underlying26 rfl (by kernel_rfl) (.tmp (.tmp (.tmp .nil))))) rfl ?_
    exact ⟨_, by first | rfl | (simp [errW_none, errW_some] <;> rfl) | (simp [*, errW_none, errW_some] <;> rfl), by first | exact Kd.R_nil _ _ _ _ _ | exact Kd.N_nil _ _ _ _ _ | exact Kd.V_nil _ _ _ _ _ | exact Kd.Q_nil _ _ _ _ _ | exact Kd.S_nil _ _ _ _ _, by repeat (first | (with_reducible first | exact HB.out | apply below_alloc | apply pw_below_drewN | apply below_drew1 | refine below_set ?_ GE458.out | refine below_set ?_ GE459.out | refine below_set ?_ GE460.out) | exact HB.out)⟩

end Go.Proofs.Ytiebeiloooblpaa.E
end
