/- Part 5 of the proof of EntriesKeep: the texts that it needs, put together by a program of this session. -/
import Derived.Lib.Slices
import Derived.LoopIn
import Derived.LoopNIn
import Derived.Maps.AppendAt
import Derived.OwnWalkIn
import Derived.RangeFuncBox
import Derived.RangeFuncLeaves
import Derived.Shelf.Abstract
import Derived.TacticsInMore
import Derived.Test.YtiebeiloooblpaaProg
import Derived.WalkKit
import Derived.WalkSpells
import Derived.Test.YtiebeiloooblpaaMEntriesKeep4
section
-- written by myprint.py, a program of this session over the kit's print.py
namespace Go.Proofs.Ytiebeiloooblpaa.E
open Go.Proofs.YtiebeiloooblpaaST
open Go.RowKit Go.Proofs.YtiebeiloooblpaaW.PrintWords Go.Proofs.YtiebeiloooblpaaW.PrintLast Go.Proofs.YtiebeiloooblpaaW.PrintMore
attribute [local go_sem] max2_int min2_int max_two min_two max_three min_three max_four min_four   -- for this text's walks alone
set_option linter.unusedVariables false
set_option linter.unusedSimpArgs false

/-! ### slices_insertionSortOrdered_int: function 61 -/
mutual
def slices_insertionSortOrdered_int.l0 : Nat → List Int → Int → Int → Int → Option (List Int)
  | 0, _, _, _, _ => none
  | k + 1, x0, x1, x2, x6 => if x6 < x2 then (slices_insertionSortOrdered_int.l1 k x0 x1 x2 x6 x6) else (some x0)
def slices_insertionSortOrdered_int.l1 : Nat → List Int → Int → Int → Int → Int → Option (List Int)
  | 0, _, _, _, _, _ => none
  | k + 1, x0, x1, x2, x6, x7 => if x7 > x1 then (if 0 ≤ x7 then (if x7 < (x0.length : Int) then (if 0 ≤ (wrap64 (x7 - 1)) then (if (wrap64 (x7 - 1)) < (x0.length : Int) then ((cmp_Less_int.f (rd x0 x7) (rd x0 (wrap64 (x7 - 1)))).bind fun t164 => (if t164 = true then (slices_insertionSortOrdered_int.l1 k ((x0.set (x7 : Int).toNat (rd x0 (wrap64 (x7 - 1)))).set ((wrap64 (x7 - 1)) : Int).toNat (rd x0 x7)) x1 x2 x6 (wrap64 (x7 - 1))) else (slices_insertionSortOrdered_int.l0 k x0 x1 x2 (wrap64 (x6 + 1))))) else (none)) else (none)) else (none)) else (none)) else (slices_insertionSortOrdered_int.l0 k x0 x1 x2 (wrap64 (x6 + 1)))
end
def slices_insertionSortOrdered_int.f (k : Nat) (l0 : List Int) (a1 : Int) (a2 : Int) : Option (List Int) := slices_insertionSortOrdered_int.l0 k l0 a1 a2 (wrap64 (a1 + 1))
theorem slices_insertionSortOrdered_int.mono_l : ∀ k, (∀ y0 y1 y2 y3, LeO (slices_insertionSortOrdered_int.l0 k y0 y1 y2 y3) (slices_insertionSortOrdered_int.l0 (k + 1) y0 y1 y2 y3)) ∧ (∀ y0 y1 y2 y3 y4, LeO (slices_insertionSortOrdered_int.l1 k y0 y1 y2 y3 y4) (slices_insertionSortOrdered_int.l1 (k + 1) y0 y1 y2 y3 y4))
  | 0 => ⟨fun _ _ _ _ r h => by simp [slices_insertionSortOrdered_int.l0] at h, fun _ _ _ _ _ r h => by simp [slices_insertionSortOrdered_int.l1] at h⟩
  | k + 1 => by
    obtain ⟨ih0, ih1⟩ := slices_insertionSortOrdered_int.mono_l k
    refine ⟨?_, ?_⟩
    · intro y0 y1 y2 y3
      unfold slices_insertionSortOrdered_int.l0
      repeat' first
      | (with_reducible exact ih0 _ _ _ _)
      | (with_reducible exact ih1 _ _ _ _ _)
      | (with_reducible exact LeO.refl _)
      | (with_reducible exact LeO.none _)
      | (with_reducible refine LeO.ite ?_ ?_)
      | (with_reducible refine LeO.bind ?_ (fun _ => ?_))
      | exact ih0 _ _ _ _
      | exact ih1 _ _ _ _ _
      | exact LeO.none _
      | refine LeO.ite ?_ ?_
      | refine LeO.bind ?_ (fun _ => ?_)
    · intro y0 y1 y2 y3 y4
      unfold slices_insertionSortOrdered_int.l1
      repeat' first
      | (with_reducible exact ih0 _ _ _ _)
      | (with_reducible exact ih1 _ _ _ _ _)
      | (with_reducible exact LeO.refl _)
      | (with_reducible exact LeO.none _)
      | (with_reducible refine LeO.ite ?_ ?_)
      | (with_reducible refine LeO.bind ?_ (fun _ => ?_))
      | exact ih0 _ _ _ _
      | exact ih1 _ _ _ _ _
      | exact LeO.none _
      | refine LeO.ite ?_ ?_
      | refine LeO.bind ?_ (fun _ => ?_)
theorem slices_insertionSortOrdered_int.mono : ∀ a0 a1 a2 k, LeO (slices_insertionSortOrdered_int.f k a0 a1 a2) (slices_insertionSortOrdered_int.f (k + 1) a0 a1 a2) := by
  intro a0 a1 a2 k
  obtain ⟨ih0, ih1⟩ := slices_insertionSortOrdered_int.mono_l k
  unfold slices_insertionSortOrdered_int.f
  repeat' first
      | (with_reducible exact ih0 _ _ _ _)
      | (with_reducible exact ih1 _ _ _ _ _)
      | (with_reducible exact LeO.refl _)
      | (with_reducible exact LeO.none _)
      | (with_reducible refine LeO.ite ?_ ?_)
      | (with_reducible refine LeO.bind ?_ (fun _ => ?_))
      | exact ih0 _ _ _ _
      | exact ih1 _ _ _ _ _
      | exact LeO.none _
      | refine LeO.ite ?_ ?_
      | refine LeO.bind ?_ (fun _ => ?_)
def slices_insertionSortOrdered_int.T4 : Bool × List (List Nat × List Nat) := (true, [([], []), ([], []), ([0, 1], [0, 1]), ([2], [2]), ([3], [3]), ([3], [3]), ([4, 5, 3], [3, 4, 5]), ([6, 3], [3, 6]), ([3], [3]), ([3], [3]), ([9, 3], [3, 9]), ([8, 10, 3], [3, 8, 10]), ([11, 3], [3, 11]), ([7, 12, 3, 3], [3, 7, 12]), ([3, 13], [3, 13])])
def slices_insertionSortOrdered_int.B4 : List Nat := [0, 0, 3, 7, 15, 15, 63, 127, 15, 15, 527, 1807, 3855, 8191, 16383]
theorem slices_insertionSortOrdered_int.tab4 : rtab .any (opsOf Try.f61 4) = slices_insertionSortOrdered_int.T4 := by kernel_rfl
theorem slices_insertionSortOrdered_int.bits4 : waitsOk slices_insertionSortOrdered_int.T4.2 slices_insertionSortOrdered_int.B4 = true := by kernel_rfl
def slices_insertionSortOrdered_int.T6 : Bool × List (List Nat × List Nat) := (true, [([], []), ([], []), ([], []), ([], []), ([3], [3]), ([], []), ([], []), ([6], [6]), ([5, 7], [5, 7]), ([8], [8]), ([], []), ([], []), ([10, 11], [10, 11]), ([12], [12]), ([0, 1, 0, 1, 5, 6, 7, 8, 9, 13], [0, 1]), ([14, 9, 0, 1, 5, 6, 7, 8, 9, 13], [9, 14]), ([2, 4, 0, 1, 2, 3, 4, 5, 6, 7, 8, 9, 10, 11, 12, 13, 14, 15], [2, 4]), ([16, 13, 15, 0, 1, 2, 3, 4, 5, 6, 7, 8, 9, 10, 11, 12, 13, 14, 15], [13, 16])])
def slices_insertionSortOrdered_int.B6 : List Nat := [0, 0, 0, 0, 8, 0, 0, 64, 224, 480, 0, 0, 3072, 7168, 16355, 32739, 65535, 131071]
theorem slices_insertionSortOrdered_int.tab6 : rtab .any (opsOf Try.f61 6) = slices_insertionSortOrdered_int.T6 := by kernel_rfl
theorem slices_insertionSortOrdered_int.bits6 : waitsOk slices_insertionSortOrdered_int.T6.2 slices_insertionSortOrdered_int.B6 = true := by kernel_rfl
set_option maxHeartbeats 8000000 in
set_option maxRecDepth 100000 in
theorem slices_insertionSortOrdered_int.calls (k : Nat) (P0_ : Nat → Prop) (u9000_ : Value) (l0 : List Int) (a1 : Int) (a2 : Int) (r : List Int) (w0 w : World) (hB : Below w0.heap.size w0 w) (ho0 : Kd.R (Kd.int .i64) 3 w w0.heap.size P0_ u9000_ l0) (h : slices_insertionSortOrdered_int.f k l0 a1 a2 = some r) :
    Calls Try.prog 61 #[u9000_, .int .i64 a1, .int .i64 a2] w fun e w' => e = .returned (.tuple #[]) ∧ Kd.R (Kd.int .i64) 3 w' w0.heap.size (fun k_ => (P0_ k_ ∨ w.heap.size ≤ k_)) u9000_ r ∧ Below w0.heap.size w0 w' ∧ Kept w w' (fun k_ => P0_ k_) := by
  have HO0 := Aside0.mk (show Kd.R (Kd.int .i64) 3 w w0.heap.size (fun k_ => (P0_ k_ ∨ w.heap.size ≤ k_)) u9000_ l0 from Kd.R_mono ho0 (fun k_ hk => (.inl hk)))
  have HK := Aside0.mk (Kept.refl w (fun k_ => P0_ k_))
  have HW0 := Aside0.mk hB.size
  have HB := Aside0.mk hB
  clear hB
  have H : (slices_insertionSortOrdered_int.l0 k l0 a1 a2 (wrap64 (a1 + 1))) = some r := h
  clear h
  have H' := Aside0.mk H
  clear H
  go_enter Try.func61, Try.ntmps61
  go_wp2
  go_loopg [6] k (fun kq v6 w' => ∃ (x0_1 : List Int) (x6_1 : Int), v6 = .int .i64 x6_1 ∧ Aside0 (slices_insertionSortOrdered_int.l0 kq x0_1 a1 a2 x6_1 = some r) ∧ Aside0 (kq ≤ k) ∧ Aside0 (Kd.R (Kd.int .i64) 3 w' w0.heap.size (fun k_ => (P0_ k_ ∨ w.heap.size ≤ k_)) u9000_ x0_1) ∧ Aside0 (Kept w w' (fun k_ => P0_ k_)) ∧ Aside0 (Below w0.heap.size w0 w'))
  case atStart => exact ⟨(l0), (wrap64 (a1 + 1)), (by first | rfl | (simp; done) | (simp [*]; done)), H', ⟨Nat.le_refl _⟩, ⟨by (with_reducible repeat (first | apply Kd.R_alloc | apply Kd.R_drewN | apply Kd.R_drew)); exact HO0.out⟩, ⟨by repeat (first | (with_reducible first | exact HK.out | apply Kept.alloc | apply Kept.drewN | apply Kept.drew) | exact HK.out)⟩, ⟨by repeat (first | (with_reducible first | exact HB.out | apply below_alloc | apply pw_below_drewN | apply below_drew1) | exact HB.out)⟩⟩
  case round =>
    clear H'
    obtain ⟨x0_1, x6_1, rfl, HA, HK1, HO_0, HK, HB⟩ := hrel
    cases gk with
    | zero => exact absurd HA.out (by simp [slices_insertionSortOrdered_int.l0])
    | succ k1 =>
      have H := HA.out
      clear HA
      simp only [slices_insertionSortOrdered_int.l0] at H
      by_cases c4 : x6_1 < a2
      · rw [if_pos c4] at H
        have c4b0 : decide (x6_1 < a2) = true := decide_eq_true c4
        clear c4
        have H' := Aside0.mk H
        clear H
        go_wp2
        go_loopg [7] k1 (fun kq v7 w' => ∃ (x0_2 : List Int) (x7_2 : Int), v7 = .int .i64 x7_2 ∧ Aside0 (slices_insertionSortOrdered_int.l1 kq x0_2 a1 a2 x6_1 x7_2 = some r) ∧ Aside0 (kq ≤ k1) ∧ Aside0 (Kd.R (Kd.int .i64) 3 w' w0.heap.size (fun k_ => (P0_ k_ ∨ w.heap.size ≤ k_)) u9000_ x0_2) ∧ Aside0 (Kept w w' (fun k_ => P0_ k_)) ∧ Aside0 (Below w0.heap.size w0 w'))
        case atStart => exact ⟨(x0_1), (x6_1), (by first | rfl | (simp; done) | (simp [*]; done)), H', ⟨Nat.le_refl _⟩, ⟨by (with_reducible repeat (first | apply Kd.R_alloc | apply Kd.R_drewN | apply Kd.R_drew)); exact HO_0.out⟩, ⟨by repeat (first | (with_reducible first | exact HK.out | apply Kept.alloc | apply Kept.drewN | apply Kept.drew) | exact HK.out)⟩, ⟨by repeat (first | (with_reducible first | exact HB.out | apply below_alloc | apply pw_below_drewN | apply below_drew1) | exact HB.out)⟩⟩
        case round =>
          clear H'
          try clear c4
          try clear c4b0
          obtain ⟨x0_2, x7_2, rfl, HA, HK2, HO_0, HK, HB⟩ := hrel
          cases gk with
          | zero => exact absurd HA.out (by simp [slices_insertionSortOrdered_int.l1])
          | succ k2 =>
            have H := HA.out
            clear HA
            simp only [slices_insertionSortOrdered_int.l1] at H
            by_cases c5 : x7_2 > a1
            · rw [if_pos c5] at H
              have c5b0 : decide (a1 < x7_2) = true := decide_eq_true c5
              clear c5
              by_cases c6 : 0 ≤ x7_2
              · rw [if_pos c6] at H
                have c6b0 : decide (0 ≤ x7_2) = true := decide_eq_true c6
                clear c6
                by_cases c7 : x7_2 < (x0_2.length : Int)
                · rw [if_pos c7] at H
                  have c7b0 : decide (x7_2 < (x0_2.length : Int)) = true := decide_eq_true c7
                  clear c7
                  obtain ⟨ji8, hji8⟩ : ∃ j_ : Int, (wrap64 (x7_2 - 1)) = j_ := ⟨_, rfl⟩
                  replace H : (if 0 ≤ (ji8) then (if (ji8) < (x0_2.length : Int) then ((cmp_Less_int.f (rd x0_2 x7_2) (rd x0_2 (ji8))).bind fun t164 => (if t164 = true then (slices_insertionSortOrdered_int.l1 k2 ((x0_2.set (x7_2 : Int).toNat (rd x0_2 (ji8))).set ((ji8) : Int).toNat (rd x0_2 x7_2)) a1 a2 x6_1 ji8) else (slices_insertionSortOrdered_int.l0 k2 x0_2 a1 a2 (wrap64 (x6_1 + 1))))) else (none)) else (none)) = some r := by first | (rw [hji8] at H; exact H) | (simp only [hji8] at H ⊢; exact H)
                  have hji8w : (IntKind.i64.wrap (x7_2 - 1)) = ji8 := (i64_w _).trans hji8
                  by_cases c9 : 0 ≤ (ji8)
                  focus
                    rw [if_pos c9] at H
                    have c9b0 : decide (0 ≤ (ji8)) = true := decide_eq_true c9
                    clear c9
                    by_cases c10 : (ji8) < (x0_2.length : Int)
                    focus
                      rw [if_pos c10] at H
                      have c10b0 : decide ((ji8) < (x0_2.length : Int)) = true := decide_eq_true c10
                      clear c10
                      replace H := Option.bind_eq_some_iff.mp H
                      obtain ⟨t164, A110, H⟩ := H
                      replace H : (if t164 = true then (slices_insertionSortOrdered_int.l1 k2 ((x0_2.set (x7_2 : Int).toNat (rd x0_2 (ji8))).set ((ji8) : Int).toNat (rd x0_2 x7_2)) a1 a2 x6_1 ji8) else (slices_insertionSortOrdered_int.l0 k2 x0_2 a1 a2 (wrap64 (x6_1 + 1)))) = some r := H
                      have A11 := Aside0.mk A110
                      clear A110
                      by_cases c12 : t164 = true
                      focus
                        subst c12
                        have H1 : (slices_insertionSortOrdered_int.l1 k2 ((x0_2.set (x7_2 : Int).toNat (rd x0_2 (ji8))).set ((ji8) : Int).toNat (rd x0_2 x7_2)) a1 a2 x6_1 ji8) = some r := by rw [if_pos rfl] at H; exact H
                        clear H
                        have H := H1
                        clear H1
                      rotate_left 1
                      focus
                        replace c12 := Bool.eq_false_iff.mpr c12
                        subst c12
                        have H1 : (slices_insertionSortOrdered_int.l0 k2 x0_2 a1 a2 (wrap64 (x6_1 + 1))) = some r := by rw [if_neg (show ¬ (false = true) by decide)] at H; exact H
                        clear H
                        have H := H1
                        clear H1
                        have H' := Aside0.mk H
                        clear H
                      rotate_left 1
                    rotate_left 2
                    focus
                      rw [if_neg c10] at H
                    rotate_left 1
                  rotate_left 3
                  focus
                    rw [if_neg c9] at H
                  rotate_left 1
                  focus
                    obtain ⟨y167, hy167⟩ : ∃ y_ : List Int, y_ = (x0_2.set (x7_2 : Int).toNat (rd x0_2 (ji8))) := ⟨_, rfl⟩
                    replace H : (slices_insertionSortOrdered_int.l1 k2 (y167.set ((ji8) : Int).toNat (rd x0_2 x7_2)) a1 a2 x6_1 ji8) = some r := by first | (rw [hy167]; with_reducible exact H) | (have H2_ := (Option.bind_some _ _).symm.trans H; rw [hy167]; with_reducible exact H2_) | (have H2_ := (Option.bind_some _ _).symm.trans H; with_reducible exact H2_) | with_reducible exact H | (rw [hy167]; exact H) | exact H
                    have Ny167 := Aside0.mk hy167
                    clear hy167
                    obtain ⟨y168, hy168⟩ : ∃ y_ : List Int, y_ = (y167.set ((ji8) : Int).toNat (rd x0_2 x7_2)) := ⟨_, rfl⟩
                    replace H : (slices_insertionSortOrdered_int.l1 k2 y168 a1 a2 x6_1 ji8) = some r := by first | (rw [hy168]; with_reducible exact H) | (have H2_ := (Option.bind_some _ _).symm.trans H; rw [hy168]; with_reducible exact H2_) | (have H2_ := (Option.bind_some _ _).symm.trans H; with_reducible exact H2_) | with_reducible exact H | (rw [hy168]; exact H) | exact H
                    have Ny168 := Aside0.mk hy168
                    clear hy168
                    have H' := Aside0.mk H
                    clear H
                    try go_wp2
                    have n0_ := Aside0.mk (Kd.R_drew HO_0.out)
                    have n1_ := Aside0.mk (Kept.drew HK.out)
                    have n2_ := Aside0.mk (below_drew1 HB.out)
                    clear HO_0
                    clear HK
                    clear HB
                    have HO_0 := n0_
                    have HK := n1_
                    have HB := n2_
                    clear n0_ n1_ n2_
                    obtain ⟨Aoyi0, coyi0, eoyi0⟩ := Kd.R_slice HO_0.out
                    (first | subst eoyi0 | (injection eoyi0 with f1_ f2_ f3_; have f4_ := f1_.symm; have f5_ := f3_.symm; clear f1_ f2_ f3_; subst f4_; subst f5_))
                    have p162 : 0 ≤ (x7_2 : Int) := of_decide_eq_true (by first | (with_reducible assumption) | assumption)
                    have q162 : x7_2 < (x0_2.length : Int) := of_decide_eq_true (by first | (with_reducible assumption) | assumption)
                    obtain ⟨ad162, e162, hx162_0⟩ := Kd.at_int (Kd.R_reads' HO_0.out).2.2 x7_2 p162 q162
                    cases e162
                    replace p162 := eq_true p162
                    replace q162 := eq_true q162
                    have p163 : 0 ≤ ((ji8) : Int) := of_decide_eq_true (by first | (with_reducible assumption) | assumption)
                    have q163 : (ji8) < (x0_2.length : Int) := of_decide_eq_true (by first | (with_reducible assumption) | assumption)
                    obtain ⟨ad163, e163, hx163_0⟩ := Kd.at_int (Kd.R_reads' HO_0.out).2.2 (ji8) p163 q163
                    obtain rfl : ad162 = ad163 := (by injection e163)
                    replace p163 := eq_true p163
                    replace q163 := eq_true q163
                    refine start_ (n := 15) (S := fun w' => w'.cell? (ad162.add (x7_2).toNat) = some (.int .i64 (rd x0_2 x7_2)) ∧ w'.cell? (ad162.add ((ji8)).toNat) = some (.int .i64 (rd x0_2 (ji8)))) (ds := []) #[false, false, false, false, false, false, false, false, false, false, false, false, false, false, false] (by kernel_rfl) rfl rfl ⟨hx162_0, hx163_0⟩ (fun hHeld => ?_); refine with_tabW slices_insertionSortOrdered_int.tab4 slices_insertionSortOrdered_int.bits4 (fun HT_ HW_ => ?_)
                    generalize wr.drew = wyi0 at HO_0 HK HB hx162_0 hx163_0 hHeld ⊢
                    refine stepP HT_ 0 (some 16) ?_
                    refine stepP HT_ 1 (some 17) ?_
                    refine stepP HT_ 2 (some 18) ?_
                    refine stepP HT_ 3 (some 19) ?_
                    refine stepP HT_ 4 (some 20) ?_
                    refine stepP HT_ 5 (some 21) ?_
                    refine stepP HT_ 6 (some 22) ?_
                    refine stepP HT_ 8 (some 24) ?_
                    refine stepP HT_ 9 (some 25) ?_
                    refine stepP HT_ 10 (some 26) ?_
                    refine stepP HT_ 11 (some 27) ?_
                    refine stepT2 HT_ HW_ 7 (some 23) hHeld ?_
                    refine stepT2 HT_ HW_ 12 (some 28) hHeld ?_
                    refine one_ (i := 13) (N := some 29) #[true, true, true, true, true, true, true, true, true, true, true, true, true, true, false] rfl rfl (one_of HT_.out (by kernel_rfl)) (by decide) (fun K hK => ?_)
                    refine goes_ Try.func67 (by kernel_rfl) rfl #[.int .i64 (rd x0_2 x7_2), .int .i64 (rd x0_2 (ji8))] (by rfl) rfl rfl (by (try simp only [List.map_toArray, List.map_cons, List.map_nil]); first | done | (simp only [hji8]; rfl) | rfl | (simp only [List.length_drop, List.length_take]; rfl)) ?_
                    with_reducible refine (cmp_Less_int.calls (rd x0_2 x7_2) (rd x0_2 (ji8)) true _ A11.out).mono ?_
                    rintro e w' ⟨rfl, ⟨nd, rfl⟩⟩
                    refine ⟨_, rfl, ?_⟩
                    refine hK.out _ _ ⟨hHeld.1, hHeld.2⟩ (fun hHeld => ?_)
                    clear hK K
                    refine norm_ (a' := ?_) ?_ ?_
                    rotate_left
                    · show Act.put _ (some 29) _ = _
                      simp only [Act.put, List.setIfInBounds_toArray, List.set_cons_zero, List.set_cons_succ, i64_w, i32_w]
                      rfl
                    refine stepP HT_ 14 (some 30) ?_
                    refine done_ (done_of HT_.out (by kernel_rfl)) ?_
                    try go_wp2
                    (try (rw [drewN_self wyi0]; generalize hq_ : World.drewN wyi0 _ = wyi0; have n0_ : Aside0 (Kd.R (Kd.int .i64) 3 wyi0 w0.heap.size (fun k_ => (P0_ k_ ∨ w.heap.size ≤ k_)) (.slice (some ad162) x0_2.length coyi0) x0_2) := ⟨by rw [← hq_]; exact (by (with_reducible repeat (first | apply Kd.R_alloc | apply Kd.R_drewN | apply Kd.R_drew)); exact HO_0.out)⟩; have n1_ : Aside0 (Kept w wyi0 (fun k_ => P0_ k_)) := ⟨by rw [← hq_]; exact (by repeat (first | (with_reducible first | exact HK.out | apply Kept.alloc | apply Kept.drewN | apply Kept.drew) | exact HK.out))⟩; have n2_ : Aside0 (Below w0.heap.size w0 wyi0) := ⟨by rw [← hq_]; exact (by repeat (first | (with_reducible first | exact HB.out | apply below_alloc | apply pw_below_drewN | apply below_drew1) | exact HB.out))⟩; clear HO_0 HK HB hq_; have HO_0 := n0_; have HK := n1_; have HB := n2_; clear n0_ n1_ n2_))
                    have n0_ := Aside0.mk (Kd.R_drew HO_0.out)
                    have n1_ := Aside0.mk (Kept.drew HK.out)
                    have n2_ := Aside0.mk (below_drew1 HB.out)
                    clear HO_0
                    clear HK
                    clear HB
                    have HO_0 := n0_
                    have HK := n1_
                    have HB := n2_
                    clear n0_ n1_ n2_
                    have p165 : 0 ≤ ((ji8) : Int) := of_decide_eq_true (by first | (with_reducible assumption) | assumption)
                    have q165 : (ji8) < (x0_2.length : Int) := of_decide_eq_true (by first | (with_reducible assumption) | assumption)
                    obtain ⟨ad165, e165, hx165_0⟩ := Kd.at_int (Kd.R_reads' HO_0.out).2.2 (ji8) p165 q165
                    obtain rfl : ad162 = ad165 := (by injection e165)
                    replace p165 := eq_true p165
                    replace q165 := eq_true q165
                    have p166 : 0 ≤ (x7_2 : Int) := of_decide_eq_true (by first | (with_reducible assumption) | assumption)
                    have q166 : x7_2 < (x0_2.length : Int) := of_decide_eq_true (by first | (with_reducible assumption) | assumption)
                    obtain ⟨ad166, e166, hx166_0⟩ := Kd.at_int (Kd.R_reads' HO_0.out).2.2 x7_2 p166 q166
                    obtain rfl : ad162 = ad166 := (by injection e166)
                    replace p166 := eq_true p166
                    replace q166 := eq_true q166
                    have p13 : 0 ≤ (x7_2 : Int) := of_decide_eq_true (by first | (with_reducible assumption) | assumption)
                    have q13 : (x7_2 : Int) < ((x0_2.length : Int) : Int) := of_decide_eq_true (by first | (with_reducible assumption) | assumption)
                    obtain ⟨go13, coyi1, eoyi1, gb13, gl13, cl13, HG13⟩ := Kd.R_form HO_0.out (by omega)
                    (first | cases eoyi1 | (injection eoyi1 with ea_ en_ ec_; (first | subst ea_ | (injection ea_ with ea_; subst ea_)); subst ec_; clear en_))
                    have GB13 := Aside0.mk gb13
                    have GG13 := Aside0.mk HG13
                    clear gb13 gl13 HG13
                    have HMgo13 := Aside0.mk (show (P0_ go13 ∨ w.heap.size ≤ go13) from (HO_0.out.1 _ rfl))
                    (first | simp only [add_plain] at hx162_0 | skip)
                    (first | simp only [add_plain] at hx163_0 | skip)
                    (first | simp only [add_plain] at hx165_0 | skip)
                    (first | simp only [add_plain] at hx166_0 | skip)
                    obtain ⟨hx13_0, hf13_0⟩ := Kd.R_celln 0 HO_0.out (x7_2 : Int) p13 q13
                    replace p13 := eq_true p13
                    replace q13 := eq_true q13
                    have HP18 := Kd.R_putn HO_0.out (x7_2 : Int) (rd x0_2 (ji8))
                    rw [← Ny167.out] at HP18
                    have HQ18 := Aside0.mk HP18
                    clear HP18
                    have p14 : 0 ≤ ((ji8) : Int) := of_decide_eq_true (by first | (with_reducible assumption) | assumption)
                    have q14 : ((ji8) : Int) < ((x0_2.length : Int) : Int) := of_decide_eq_true (by first | (with_reducible assumption) | assumption)
                    obtain ⟨hx14_0, hf14_0⟩ := Kd.R_celln 0 HQ18.out ((ji8) : Int) p14 q14
                    replace p14 := eq_true p14
                    replace q14 := eq_true q14
                    have HP19 := Kd.R_putn HQ18.out ((ji8) : Int) (rd x0_2 x7_2)
                    rw [← Ny168.out] at HP19
                    have HQ19 := Aside0.mk HP19
                    clear HP19
                    refine start_ (n := 18) (S := fun w' => w'.cell? ⟨go13, ((ji8)).toNat, none⟩ = some (.int .i64 (rd x0_2 (ji8))) ∧ w'.cell? ⟨go13, (x7_2).toNat, none⟩ = some (.int .i64 (rd x0_2 x7_2))) (ds := [15, 17]) #[false, false, false, false, false, false, false, false, false, false, false, false, false, false, false, false, false, false] (by kernel_rfl) rfl rfl ⟨hx165_0, hx166_0⟩ (fun hHeld => ?_); refine with_tabW slices_insertionSortOrdered_int.tab6 slices_insertionSortOrdered_int.bits6 (fun HT_ HW_ => ?_)
                    generalize wyi0.drew = wyi1 at HO_0 HK HB GG13 HQ18 HQ19 hf13_0 hf14_0 hx13_0 hx14_0 hx162_0 hx163_0 hx165_0 hx166_0 hHeld ⊢
                    refine stepP HT_ 0 (some 33) ?_
                    refine stepP HT_ 1 (some 34) ?_
                    refine stepP HT_ 2 (some 35) ?_
                    refine stepP HT_ 3 (some 36) ?_
                    refine stepP HT_ 4 (some 37) ?_
                    refine stepP HT_ 5 (some 38) ?_
                    refine stepP HT_ 6 (some 39) ?_
                    refine stepP HT_ 7 (some 40) ?_
                    refine stepP HT_ 8 (some 41) ?_
                    refine stepP HT_ 10 (some 43) ?_
                    refine stepP HT_ 11 (some 44) ?_
                    refine stepP HT_ 12 (some 45) ?_
                    refine stepT2 HT_ HW_ 9 (some 42) hHeld ?_
                    refine stepT2 HT_ HW_ 13 (some 46) hHeld ?_
                    refine stepP HT_ 14 (some 47) ?_
                    refine last_ (i := 15) (N := none) #[true, true, true, true, true, true, true, true, true, true, true, true, true, true, true, true, false, false] rfl rfl (one_of HT_.out (by kernel_rfl)) (by decide) (fun K hK => ?_)
                    refine skip_ (w1 := ?_) (by rfl) rfl ?_ ?_
                    rotate_left
                    · go_simp
                      rfl
                    refine hK.out _ _ ?_
                    clear hK K
                    refine stepP HT_ 16 (some 48) ?_
                    refine last_ (i := 17) (N := none) #[true, true, true, true, true, true, true, true, true, true, true, true, true, true, true, true, true, true] rfl rfl (one_of HT_.out (by kernel_rfl)) (by decide) (fun K hK => ?_)
                    refine skip_ (w1 := ?_) (by rfl) rfl ?_ ?_
                    rotate_left
                    · go_simp
                      rfl
                    refine hK.out _ _ ?_
                    clear hK K
                    refine done_ (done_of HT_.out (by kernel_rfl)) ?_
                    try go_wp2
                    go_roundg k2
                    case measure => have := HK1.out; have := HK2.out; omega
                    case rel => exact ⟨(y168), (ji8), (by first | rfl | (simp; done) | (simp only [← hji8] <;> (first | rfl | simp)) | (simp [*]; done)), H', ⟨by have := HK1.out; have := HK2.out; omega⟩, ⟨by (with_reducible repeat (first | apply Kd.R_alloc | apply Kd.R_drewN | apply Kd.R_drew)); exact HQ19.out⟩, ⟨by repeat (first | (with_reducible first | exact HK.out | apply Kept.alloc | apply Kept.drewN | apply Kept.drew | refine Kept.setCell ?_ HMgo13.out _ | refine Kept.setCell ?_ HMgo13.out _) | exact HK.out)⟩, ⟨by repeat (first | (with_reducible first | exact HB.out | apply below_alloc | apply pw_below_drewN | apply below_drew1 | refine below_set ?_ GB13.out | refine below_set ?_ GB13.out) | exact HB.out)⟩⟩
                  focus
                    try go_wp2
                    have n0_ := Aside0.mk (Kd.R_drew HO_0.out)
                    have n1_ := Aside0.mk (Kept.drew HK.out)
                    have n2_ := Aside0.mk (below_drew1 HB.out)
                    clear HO_0
                    clear HK
                    clear HB
                    have HO_0 := n0_
                    have HK := n1_
                    have HB := n2_
                    clear n0_ n1_ n2_
                    obtain ⟨Aoyi0, coyi0, eoyi0⟩ := Kd.R_slice HO_0.out
                    (first | subst eoyi0 | (injection eoyi0 with f1_ f2_ f3_; have f4_ := f1_.symm; have f5_ := f3_.symm; clear f1_ f2_ f3_; subst f4_; subst f5_))
                    have p162 : 0 ≤ (x7_2 : Int) := of_decide_eq_true (by first | (with_reducible assumption) | assumption)
                    have q162 : x7_2 < (x0_2.length : Int) := of_decide_eq_true (by first | (with_reducible assumption) | assumption)
                    obtain ⟨ad162, e162, hx162_0⟩ := Kd.at_int (Kd.R_reads' HO_0.out).2.2 x7_2 p162 q162
                    cases e162
                    replace p162 := eq_true p162
                    replace q162 := eq_true q162
                    have p163 : 0 ≤ ((ji8) : Int) := of_decide_eq_true (by first | (with_reducible assumption) | assumption)
                    have q163 : (ji8) < (x0_2.length : Int) := of_decide_eq_true (by first | (with_reducible assumption) | assumption)
                    obtain ⟨ad163, e163, hx163_0⟩ := Kd.at_int (Kd.R_reads' HO_0.out).2.2 (ji8) p163 q163
                    obtain rfl : ad162 = ad163 := (by injection e163)
                    replace p163 := eq_true p163
                    replace q163 := eq_true q163
                    refine start_ (n := 15) (S := fun w' => w'.cell? (ad162.add (x7_2).toNat) = some (.int .i64 (rd x0_2 x7_2)) ∧ w'.cell? (ad162.add ((ji8)).toNat) = some (.int .i64 (rd x0_2 (ji8)))) (ds := []) #[false, false, false, false, false, false, false, false, false, false, false, false, false, false, false] (by kernel_rfl) rfl rfl ⟨hx162_0, hx163_0⟩ (fun hHeld => ?_); refine with_tabW slices_insertionSortOrdered_int.tab4 slices_insertionSortOrdered_int.bits4 (fun HT_ HW_ => ?_)
                    generalize wr.drew = wyi0 at HO_0 HK HB hx162_0 hx163_0 hHeld ⊢
                    refine stepP HT_ 0 (some 16) ?_
                    refine stepP HT_ 1 (some 17) ?_
                    refine stepP HT_ 2 (some 18) ?_
                    refine stepP HT_ 3 (some 19) ?_
                    refine stepP HT_ 4 (some 20) ?_
                    refine stepP HT_ 5 (some 21) ?_
                    refine stepP HT_ 6 (some 22) ?_
                    refine stepP HT_ 8 (some 24) ?_
                    refine stepP HT_ 9 (some 25) ?_
                    refine stepP HT_ 10 (some 26) ?_
                    refine stepP HT_ 11 (some 27) ?_
                    refine stepT2 HT_ HW_ 7 (some 23) hHeld ?_
                    refine stepT2 HT_ HW_ 12 (some 28) hHeld ?_
                    refine one_ (i := 13) (N := some 29) #[true, true, true, true, true, true, true, true, true, true, true, true, true, true, false] rfl rfl (one_of HT_.out (by kernel_rfl)) (by decide) (fun K hK => ?_)
                    refine goes_ Try.func67 (by kernel_rfl) rfl #[.int .i64 (rd x0_2 x7_2), .int .i64 (rd x0_2 (ji8))] (by rfl) rfl rfl (by (try simp only [List.map_toArray, List.map_cons, List.map_nil]); first | done | (simp only [hji8]; rfl) | rfl | (simp only [List.length_drop, List.length_take]; rfl)) ?_
                    with_reducible refine (cmp_Less_int.calls (rd x0_2 x7_2) (rd x0_2 (ji8)) false _ A11.out).mono ?_
                    rintro e w' ⟨rfl, ⟨nd, rfl⟩⟩
                    refine ⟨_, rfl, ?_⟩
                    refine hK.out _ _ ⟨hHeld.1, hHeld.2⟩ (fun hHeld => ?_)
                    clear hK K
                    refine norm_ (a' := ?_) ?_ ?_
                    rotate_left
                    · show Act.put _ (some 29) _ = _
                      simp only [Act.put, List.setIfInBounds_toArray, List.set_cons_zero, List.set_cons_succ, i64_w, i32_w]
                      rfl
                    refine stepP HT_ 14 (some 30) ?_
                    refine done_ (done_of HT_.out (by kernel_rfl)) ?_
                    try go_wp2
                    go_roundg k2
                    case measure => have := HK1.out; have := HK2.out; omega
                    case rel => exact ⟨(x0_2), (wrap64 (x6_1 + 1)), (by first | rfl | (simp; done) | (simp [*]; done)), H', ⟨by have := HK1.out; have := HK2.out; omega⟩, ⟨by (with_reducible repeat (first | apply Kd.R_alloc | apply Kd.R_drewN | apply Kd.R_drew)); exact HO_0.out⟩, ⟨by repeat (first | (with_reducible first | exact HK.out | apply Kept.alloc | apply Kept.drewN | apply Kept.drew) | exact HK.out)⟩, ⟨by repeat (first | (with_reducible first | exact HB.out | apply below_alloc | apply pw_below_drewN | apply below_drew1) | exact HB.out)⟩⟩
                  iterate 2
                    focus
                      exact absurd H (by simp)
                · rw [if_neg c7] at H
                  exact absurd H (by simp)
              · rw [if_neg c6] at H
                exact absurd H (by simp)
            · rw [if_neg c5] at H
              have c5b0 : decide (a1 < x7_2) = false := decide_eq_false c5
              clear c5
              have H' := Aside0.mk H
              clear H
              try go_wp2
              have n0_ := Aside0.mk (Kd.R_drew HO_0.out)
              have n1_ := Aside0.mk (Kept.drew HK.out)
              have n2_ := Aside0.mk (below_drew1 HB.out)
              clear HO_0
              clear HK
              clear HB
              have HO_0 := n0_
              have HK := n1_
              have HB := n2_
              clear n0_ n1_ n2_
              refine start_ (n := 15) (S := fun w' => True) (ds := []) #[false, false, false, false, false, false, false, false, false, false, false, false, false, false, false] (by kernel_rfl) rfl rfl trivial (fun hHeld => ?_); refine with_tabW slices_insertionSortOrdered_int.tab4 slices_insertionSortOrdered_int.bits4 (fun HT_ HW_ => ?_)
              generalize wr.drew = w22 at HO_0 HK HB hHeld ⊢
              refine stepP HT_ 0 (some 16) ?_
              refine stepP HT_ 1 (some 17) ?_
              refine stepP HT_ 2 (some 18) ?_
              refine stepP HT_ 3 (some 19) ?_
              refine stepU HT_ 4 (some 20) ?_
              refine stepU HT_ 5 (some 21) ?_
              refine stepU HT_ 6 (some 22) ?_
              refine stepU HT_ 7 (some 23) ?_
              refine stepU HT_ 8 (some 24) ?_
              refine stepU HT_ 9 (some 25) ?_
              refine stepU HT_ 10 (some 26) ?_
              refine stepU HT_ 11 (some 27) ?_
              refine stepU HT_ 12 (some 28) ?_
              refine stepU HT_ 13 (some 29) ?_
              refine stepP HT_ 14 (some 30) ?_
              refine done_ (done_of HT_.out (by kernel_rfl)) ?_
              try go_wp2
              go_roundg k2
              case measure => have := HK1.out; have := HK2.out; omega
              case rel => exact ⟨(x0_2), (wrap64 (x6_1 + 1)), (by first | rfl | (simp; done) | (simp [*]; done)), H', ⟨by have := HK1.out; have := HK2.out; omega⟩, ⟨by (with_reducible repeat (first | apply Kd.R_alloc | apply Kd.R_drewN | apply Kd.R_drew)); exact HO_0.out⟩, ⟨by repeat (first | (with_reducible first | exact HK.out | apply Kept.alloc | apply Kept.drewN | apply Kept.drew) | exact HK.out)⟩, ⟨by repeat (first | (with_reducible first | exact HB.out | apply below_alloc | apply pw_below_drewN | apply below_drew1) | exact HB.out)⟩⟩
      · rw [if_neg c4] at H
        have c4b0 : decide (x6_1 < a2) = false := decide_eq_false c4
        clear c4
        obtain rfl := Option.some.inj H
        go_wp2
        first | go_end0 | ((try simp only [Exit.inBlock, Exit.then]); refine bodyPost_ret (results_none rfl _ _ _) rfl ?_)
        exact ⟨by first | rfl | (simp [errW_none, errW_some] <;> rfl) | (simp [*, errW_none, errW_some] <;> rfl), by (with_reducible repeat (first | apply Kd.R_alloc | apply Kd.R_drewN | apply Kd.R_drew)); exact HO_0.out, by repeat (first | (with_reducible first | exact HB.out | apply below_alloc | apply pw_below_drewN | apply below_drew1) | exact HB.out), by repeat (first | (with_reducible first | exact HK.out | apply Kept.alloc | apply Kept.drewN | apply Kept.drew) | exact HK.out)⟩

end Go.Proofs.Ytiebeiloooblpaa.E
end
section
/- Helper lemmas of this session: blocks of the call's own, cell by cell. -/
namespace Go.Proofs.YtiebeiloooblpaaH2
open Go.RowKit Go.Proofs.YtiebeiloooblpaaW.PrintWords Go.Proofs.YtiebeiloooblpaaW.PrintLast Go.Proofs.YtiebeiloooblpaaW.PrintMore

/-- Two blocks of the call's own, behind a callee that leaves them alone. -/
theorem two_boxes (w : World) (o1 o2 : Obj) {w1 : World} (hB : Below ((w.alloc o1).alloc o2).heap.size ((w.alloc o1).alloc o2) w1) :
    w1.heap[w.heap.size]? = some o1 ∧ w1.heap[w.heap.size + 1]? = some o2 ∧ Below w.heap.size w w1 ∧ w.heap.size + 2 ≤ w1.heap.size := by
  have e1 : (w.alloc o1).heap.size = w.heap.size + 1 := by simp
  have b2 := blk_new (w.alloc o1) o2
  rw [e1] at b2
  refine ⟨blk_below (blk_alloc (blk_new w o1) o2) hB, blk_below b2 hB, below_step (below_alloc (below_alloc (Below.refl _ _) _) _) hB, ?_⟩
  have := hB.size
  simpa using this
theorem cells4 {w : World} {g : Nat} {t : TypeId} {v0 v1 v2 v3 : Value} (b : w.heap[g]? = some (.cells #[v0, v1, v2, v3] t (0, 0))) :
    w.cell? ⟨g, 0, none⟩ = some v0 ∧ w.cell? ⟨g, 1, none⟩ = some v1 ∧ w.cell? ⟨g, 2, none⟩ = some v2 ∧ w.cell? ⟨g, 3, none⟩ = some v3 ∧
      w.frozen? ⟨g, 0, none⟩ = false ∧ w.frozen? ⟨g, 1, none⟩ = false ∧ w.frozen? ⟨g, 2, none⟩ = false ∧ w.frozen? ⟨g, 3, none⟩ = false :=
  ⟨(blk_cell b 0).trans rfl, (blk_cell b 1).trans rfl, (blk_cell b 2).trans rfl, (blk_cell b 3).trans rfl, blk_frozen b 0, blk_frozen b 1, blk_frozen b 2, blk_frozen b 3⟩

theorem store4 {w : World} {g : Nat} {t : TypeId} {v0 v1 v2 v3 : Value} (b : w.heap[g]? = some (.cells #[v0, v1, v2, v3] t (0, 0))) (a0 a1 a2 a3 : Value) :
    ((((w.setCell ⟨g, 0, none⟩ a0).setCell ⟨g, 1, none⟩ a1).setCell ⟨g, 2, none⟩ a2).setCell ⟨g, 3, none⟩ a3).heap[g]? = some (.cells #[a0, a1, a2, a3] t (0, 0)) := by
  refine blk_put (cs := #[a0, a1, a2, v3]) ?_ 3 _ rfl
  refine blk_put (cs := #[a0, a1, v2, v3]) ?_ 2 _ rfl
  refine blk_put (cs := #[a0, v1, v2, v3]) ?_ 1 _ rfl
  exact blk_put (cs := #[v0, v1, v2, v3]) b 0 _ rfl
theorem below4 {w0 w : World} {g : Nat} (h : Below w0.heap.size w0 w) (hg : w0.heap.size ≤ g) (a0 a1 a2 a3 : Value) :
    Below w0.heap.size w0 ((((w.setCell ⟨g, 0, none⟩ a0).setCell ⟨g, 1, none⟩ a1).setCell ⟨g, 2, none⟩ a2).setCell ⟨g, 3, none⟩ a3) :=
  below_set (below_set (below_set (below_set h hg) hg) hg) hg
theorem R_far4 {α : Type} {d : Kd α} {e : Nat} {w : World} {base : Nat} {v : Value} {xs : List α} {g t : Nat} {cells : Array Value} (h : Kd.R d e w base (fun _ => True) v xs) (b : w.heap[g]? = some (.cells cells t (0, 0))) (ht : ∀ q, q ∈ e :: d.E → q ≠ t) (a0 a1 a2 a3 : Value) :
    Kd.R d e ((((w.setCell ⟨g, 0, none⟩ a0).setCell ⟨g, 1, none⟩ a1).setCell ⟨g, 2, none⟩ a2).setCell ⟨g, 3, none⟩ a3) base (fun _ => True) v xs :=
  Kd.R_mono (Kd.R_far (p := ⟨g, 3, none⟩) (Kd.R_far (p := ⟨g, 2, none⟩) (Kd.R_far (p := ⟨g, 1, none⟩) (Kd.R_far (p := ⟨g, 0, none⟩) (Kd.R_types h b ht) (fun _ hk => hk.2) a0) (fun _ hk => hk.2) a1) (fun _ hk => hk.2) a2) (fun _ hk => hk.2) a3) (fun _ _ => trivial)

end Go.Proofs.YtiebeiloooblpaaH2
end
section
/- slices.Values over ints, and slices.AppendSeq, slices.Collect of it: a slice of the call's own with the same ints. (Turned from the guide's worked texts on ranges over functions.) -/
namespace Go.Proofs.YtiebeiloooblpaaVAL
open Go.RowKit Go.Shelf Go.Proofs.YtiebeiloooblpaaW.PrintWords Go.Proofs.YtiebeiloooblpaaW.PrintLast

attribute [local go_sem] Oper.semAt_some

def upto {α : Type} (f : Nat → α) (k : Nat) : List α := (List.range k).map f
theorem upto_succ {α : Type} (f : Nat → α) (k : Nat) : upto f (k + 1) = upto f k ++ [f k] := by simp [upto, List.range_succ]
theorem upto_length {α : Type} (f : Nat → α) (k : Nat) : (upto f k).length = k := by simp [upto]
theorem upto_all (zs : List Int) : upto (fun j => zs[j]?.getD 0) zs.length = zs := by
  apply List.ext_getElem
  · simp [upto]
  · intro i h1 h2
    simp [upto, h2]
theorem upto_take (zs : List Int) {k : Nat} (hk : k ≤ zs.length) : upto (fun j => zs[j]?.getD 0) k = zs.take k := by
  apply List.ext_getElem
  · simp [upto, hk]
  · intro i h1 h2
    have : i < zs.length := by simp [upto] at h1; omega
    simp [upto, this]

theorem add_block (ad : Addr) (j : Nat) : (ad.add j).block = ad.block := by unfold Addr.add; split <;> rfl
set_option maxRecDepth 100000 in
set_option maxHeartbeats 2000000 in
/-- The iterator: for every loop body that keeps what lay below n₀. -/
theorem values1_in (F : Fence) (n : Nat) (h7 : F.fn 57) (hro : F.round = none) (hn : 1 ≤ n) (l Bs n₀ : Nat) (ad : Addr) (len cap : Nat) (zs : List Int) (hreach : len * 8 ≤ 140737488351232) (hb : ad.block < n₀) (J Jx : List Int → World → Prop)
    (hY : ∀ pre x W, J pre W → pre.length < len → YieldAt F (n - 1) Try.prog l #[.int .i64 x] W fun e W' =>
      (e = .returned (.bool true) ∧ J (pre ++ [x]) W' ∧ Below n₀ W W') ∨ (e = .returned (.bool false) ∧ Jx (pre ++ [x]) W'))
    (W : World) (hBs : W.cell? ⟨Bs, 0, none⟩ = some (.slice (some ad) len cap)) (hc : ∀ j, j < len → W.cell? (ad.add j) = some (.int .i64 (zs[j]?.getD 0))) (h0 : J [] W) :
    CallsIn F n Try.prog 57 #[.func (.yield l) #[] #[], .pointer (some ⟨Bs, 0, none⟩)] W fun e W' => (∃ v, e = .returned v) ∧
      ((∃ ys, ys = upto (fun j => zs[j]?.getD 0) len ∧ J ys W') ∨ (∃ pre, (∃ k, k ≤ len ∧ pre = upto (fun j => zs[j]?.getD 0) k) ∧ Jx pre W')) := by
  refine callsIn_of_wp Try.func57 rfl h7 ?_ hro
  simp only [Try.ntmps57, List.size_toArray, List.length_cons, List.length_nil, Nat.reduceAdd, Nat.reduceSub, Array.replicate_succ, Array.replicate_zero, List.push_toArray, List.append_toArray, List.nil_append, List.cons_append]
  gi_wp2
  gi_loopw [7] (fun i wr => ∃ k : Nat, k ≤ len ∧ i = .int .i64 k ∧ J (upto (fun j => zs[j]?.getD 0) k) wr ∧ Below n₀ W wr)
    (fun i _ => len - (intOf i).toNat)
  case atStart => exact ⟨0, Nat.zero_le _, rfl, h0, Below.refl _ _⟩
  case round =>
    obtain ⟨k, hk, rfl, hJs, hnx⟩ := hrel
    have hcx : k < len → wr.cell? (ad.add k) = some (.int .i64 (zs[k]?.getD 0)) := fun h => (hnx.cell (p := ad.add k) (by rw [add_block]; exact hb)).trans (hc k h)
    by_cases hlt : k < len
    · obtain ⟨fn, tmps, assign, body, hy, hR⟩ := hY _ (zs[k]?.getD 0) wr hJs (by rw [upto_length]; exact hlt)
      have hcx' := hcx hlt
      gi_wp2
      refine hR.mono ?_
      rintro e W3 (⟨rfl, hJ3, hk3⟩ | ⟨rfl, hJx3⟩)
      · gi_wp2
        go_roundw
        case rel => exact ⟨k + 1, by omega, by simp, by rw [upto_succ]; exact hJ3, hnx.trans hk3⟩
        case measure => simp [intOf]; omega
      · gi_wp2
        refine bodyPost_ret (results_none rfl _ _ _) rfl ?_
        exact ⟨⟨_, rfl⟩, .inr ⟨_, ⟨k + 1, by omega, (upto_succ _ _).symm⟩, hJx3⟩⟩
    · obtain rfl : k = len := by omega
      gi_wp2
      go_end0
      exact ⟨⟨_, rfl⟩, .inl ⟨_, rfl, hJs⟩⟩

/-- The slice value sv holds the ints zs, in a block below n₀; or it is nil and there are none. -/
def Ints (n₀ : Nat) (W : World) (sv : Value) (zs : List Int) : Prop :=
  (sv = .slice none 0 0 ∧ zs = []) ∨ ∃ (ad : Addr) (cap : Nat), sv = .slice (some ad) zs.length cap ∧ ad.block < n₀ ∧ ∀ j, j < zs.length → W.cell? (ad.add j) = some (.int .i64 (zs[j]?.getD 0))
theorem Ints.below {n₀ : Nat} {A B : World} (h : Below n₀ A B) {sv : Value} {zs : List Int} : Ints n₀ A sv zs → Ints n₀ B sv zs
  | .inl e => .inl e
  | .inr ⟨ad, cap, e, hb, hc⟩ => .inr ⟨ad, cap, e, hb, fun j hj => (h.cell (p := ad.add j) (by rw [add_block]; exact hb)).trans (hc j hj)⟩

set_option maxRecDepth 100000 in
set_option maxHeartbeats 1000000 in
theorem values1_nil_in (F : Fence) (n : Nat) (h7 : F.fn 57) (hro : F.round = none) (l Bs : Nat) (J : List Int → World → Prop) (W : World) (hBs : W.cell? ⟨Bs, 0, none⟩ = some (.slice none 0 0)) (h0 : J [] W) :
    CallsIn F n Try.prog 57 #[.func (.yield l) #[] #[], .pointer (some ⟨Bs, 0, none⟩)] W fun e W' => (∃ v, e = .returned v) ∧ J [] W' := by
  refine callsIn_of_wp Try.func57 rfl h7 ?_ hro
  simp only [Try.ntmps57, List.size_toArray, List.length_cons, List.length_nil, Nat.reduceAdd, Nat.reduceSub, Array.replicate_succ, Array.replicate_zero, List.push_toArray, List.append_toArray, List.nil_append, List.cons_append]
  gi_wp2
  gi_loopw [7] (fun i wr => i = .int .i64 0 ∧ J [] wr) (fun _ _ => 0)
  case atStart => exact ⟨rfl, h0⟩
  case round =>
    obtain ⟨rfl, hJs⟩ := hrel
    gi_wp2
    go_end0
    exact ⟨⟨_, rfl⟩, hJs⟩

theorem values_stops (F : Fence) (n : Nat) (h7 : F.fn 57) (hro : F.round = none) (hn : 1 ≤ n) (Bs n₀ : Nat) (sv : Value) (zs : List Int) (hreach : zs.length * 8 ≤ 140737488351232) (w : World) (hBs : Bs < w.heap.size) (hn₀ : n₀ ≤ w.heap.size)
    (hc : w.cell? ⟨Bs, 0, none⟩ = some sv) (hI : Ints n₀ w sv zs) :
    SeqStopsK F n Try.prog 57 #[.pointer (some ⟨Bs, 0, none⟩)] (fun x : Int => #[Value.int .i64 x]) (Below n₀) (fun ys => ys = zs) (fun pre => pre <+: zs) zs.length w := fun l J Jx W hW _ _ hY h0 => by
  have hc' := (hW.cell (p := ⟨Bs, 0, none⟩) hBs).trans hc
  rcases hI.below (hW.mono hn₀) with ⟨rfl, rfl⟩ | ⟨ad, cap, rfl, hb, hcs⟩
  · exact (values1_nil_in F n h7 hro l Bs J W hc' h0).mono fun e W' ⟨he, hj⟩ => ⟨he, .inl ⟨_, rfl, hj⟩⟩
  · refine (values1_in F n h7 hro hn l Bs n₀ ad zs.length cap zs hreach hb J Jx hY W hc' hcs h0).mono ?_
    rintro e W' ⟨he, ⟨ys, rfl, hj⟩ | ⟨pre, ⟨k, hk, rfl⟩, hj⟩⟩
    · exact ⟨he, .inl ⟨_, upto_all zs, hj⟩⟩
    · exact ⟨he, .inr ⟨_, by rw [upto_take zs hk]; exact List.take_prefix _ _, hj⟩⟩

theorem infoInt : (Try.prog.info? 3).map (fun i => (i.zero, i.size, i.bytes)) = some (some (.int .i64 0), 1, 8) := by kernel_rfl

set_option maxRecDepth 100000 in
set_option maxHeartbeats 2000000 in
theorem appendSeq_in (F : Fence) (n : Nat) (h3 : F.fn 58) (h5 : F.fn 57) (hro : F.round = none) (hn : 3 ≤ n) (Bs : Nat) (sv : Value) (zs : List Int) (hlen : zs.length ≤ maxLen) (hreach : zs.length * 8 ≤ 140737488351232) (w : World)
    (hBs : Bs < w.heap.size) (hc0 : w.cell? ⟨Bs, 0, none⟩ = some sv) (hI : Ints w.heap.size w sv zs) :
    CallsIn F n Try.prog 58 #[.slice none 0 0, .func (.func 57) #[] #[.pointer (some ⟨Bs, 0, none⟩)]] w fun e W' => ∃ v, e = .returned v ∧ W'.ownsRow w.heap.size 3 1 v zs.length (zs.map (Value.int .i64)) ∧ Below w.heap.size w W' := by
  have h1 : 1 ≤ n := by omega
  obtain ⟨i0, hi, hz0, hz1, hz2⟩ := info_parts infoInt
  refine callsIn_of_wp_marks Try.func58 rfl h3 ?_ hro
  simp only [Try.ntmps58, List.size_toArray, List.length_cons, List.length_nil, Nat.reduceAdd, Nat.reduceSub, Array.replicate_succ, Array.replicate_zero, List.push_toArray, List.append_toArray, List.nil_append, List.cons_append]
  gi_wp2
  have bO := Boxed.new w 47 (.slice none 0 0)
  have hB0 : Below w.heap.size w (w.alloc (.cells #[.slice none 0 0] 47)) := (Below.refl _ w).alloc (Nat.le_refl _) _
  refine wpIn_rangeFunc_ownG hro h1 (gf := 57) (lb := #[.pointer (some ⟨Bs, 0, none⟩)]) rfl h5 (enters_of Try.func57 (by kernel_rfl) rfl)
    (values_stops F (n - 1) h5 hro (by omega) Bs w.heap.size sv zs hreach _ (by simp; omega) (by simp) ((hB0.cell (p := ⟨Bs, 0, none⟩) hBs).trans hc0) (hI.below hB0)) belowK_t (belowK_b (by simp)) (Below.refl _ _) (fun _ => rfl)
    (fun pre W => (∃ v, Boxed W w.heap.size 47 v ∧ W.ownsRow w.heap.size 3 1 v pre.length (pre.map (Value.int .i64)) ∧ True) ∧ Below w.heap.size w W)
    (fun _ _ _ => False)
    (OwnFrom.and (Own.from (holdsRow_own w.heap.size w.heap.size 47 3 1 (fun pre : List Int => pre.length) (fun pre : List Int => pre.map (Value.int .i64)) (fun _ _ => True)) _) (ownFrom_below (Nat.le_refl _) (by simp)))
    (fun _ _ _ _ _ hs _ _ => hs)
    ⟨⟨_, bO, World.ownsRow_nil _ _ _ _, trivial⟩, hB0⟩
    (fun x => { tmps := #[.slice none 0 0, .func (.func 57) #[] #[.pointer (some ⟨Bs, 0, none⟩)], .pointer (some ⟨w.heap.size, 0, none⟩), undef, .slice none 0 0, .int .i64 x, .func (.func 57) #[] #[.pointer (some ⟨Bs, 0, none⟩)], .int .i64 x, undef, undef, undef, undef, undef], defers := [] }) ?assign ?body ?done ?stop
  case assign =>
    intro l x W K hK
    gi_wp2
    exact hK
  case body =>
    rintro l pre x W ⟨⟨v, hv, hrow, _⟩, hB⟩ hlt
    have hc := hv.cell
    gi_wp2_with (gi_at_builtin; refine wpListIn_append_own _ rfl _ _ 47 rfl w.heap.size 3 i0 (.int .i64 0) 1 8 Try.underlying47 hi hz0 hz1 hz2 rfl (by decide) _ _ _ rfl (hrow.alloc _) ⟨W.heap.size, 0, none⟩ 1 1 [.int .i64 x] rfl rfl (cell_one_new _ _ _) (by simp [Value.oneCell']) (by omega) (by omega) (by have := hB.size; simp; omega) ?_; intro v' w1 hown' hgrow _; obtain ⟨g', cap', rfl⟩ := ownsRow_succ hown'; obtain ⟨hv1, hv2, hr2, hk2, hb2⟩ := hv.appended (by decide) hrow hB.size (Nat.le_refl _) hown' hgrow; have hc1 := hv1.cell; have hf1 := hv1.frozen)
    exact ⟨hk2.from _, hb2, ⟨_, hv2, by simpa using hr2, trivial⟩, hB.trans hb2⟩
  case done =>
    rintro D ys W hD rfl ⟨⟨v, hv, hrow, _⟩, hB⟩ hK
    have hc := hv.cell
    gi_wp2
    refine ⟨by simp, .inl ⟨_, _, rfl, run_takeDeferred hK, ?_⟩⟩
    exact ⟨_, results_tmp rfl _ _ _, v, rfl, ownsRow_putObj hrow _ hK rfl, hB.trans (belowK_b (w := w) (Nat.le_refl _) W D _ _ (by simp at hD; omega) hK rfl rfl)⟩
  case stop =>
    rintro D c pre W _ _ h _
    exact h.elim

theorem ints_of {w : World} {A : Option Addr} {c : Nat} {zs : List Int} (hC : Kd.C (Kd.int .i64) w A zs.length zs) (hz : 0 < zs.length) : Ints w.heap.size w (.slice A zs.length c) zs := by
  obtain ⟨ad, hA, h0⟩ := Kd.at_int hC 0 (Int.le_refl 0) (by omega)
  subst hA
  refine .inr ⟨ad, c, rfl, by have := World.block_lt_of_cell? w _ h0; rwa [add_block] at this, fun j hj => ?_⟩
  obtain ⟨ad', e, h⟩ := Kd.at_int hC (j : Int) (by omega) (by omega)
  cases e
  simpa [rd, List.getD] using h
set_option maxRecDepth 100000 in
set_option maxHeartbeats 2000000 in
theorem collect_calls (Bs : Nat) (A : Option Addr) (c : Nat) (zs : List Int) (hz : 0 < zs.length) (hlen : zs.length ≤ 1000000) (w : World) (hc0 : w.cell? ⟨Bs, 0, none⟩ = some (.slice A zs.length c)) (hC : Kd.C (Kd.int .i64) w A zs.length zs) :
    Calls Try.prog 55 #[.func (.func 57) #[] #[.pointer (some ⟨Bs, 0, none⟩)]] w fun e w' => ∃ v, e = .returned v ∧ Kd.R (Kd.int .i64) 3 w' w.heap.size (fun _ => True) v zs ∧ Below w.heap.size w w' := by
  have hap : ∀ R, (∀ e w', (∃ v, e = .returned v ∧ Kd.R (Kd.int .i64) 3 w' w.heap.size (fun _ => True) v zs ∧ Below w.heap.size w w') → R e w') → Calls Try.prog 58 #[.slice none 0 0, .func (.func 57) #[] #[.pointer (some ⟨Bs, 0, none⟩)]] w R := fun R hR => by
    refine (callsIn_wide (n := 3)).1 ?_
    refine (appendSeq_in Fence.wide 3 trivial trivial rfl (by omega) Bs _ zs (by unfold maxLen; omega) (by omega) w (World.block_lt_of_cell? w _ hc0) hc0 (ints_of hC hz)).mono ?_
    rintro e w' ⟨v, rfl, ho, hb⟩
    exact hR _ _ ⟨v, rfl, Kd.R_of_own ho (fun _ _ => trivial), hb⟩
  go_enter Try.func55, Try.ntmps55
  go_wp2_with (go_at_call 58; refine hap _ ?_; rintro e w' ⟨v, rfl, ho, hb⟩)
  go_ret
  exact ⟨v, rfl, ho, hb⟩
end Go.Proofs.YtiebeiloooblpaaVAL
end
section
-- written by myprint.py, a program of this session over the kit's print.py
namespace Go.Proofs.Ytiebeiloooblpaa.E
open Go.RowKit Go.Proofs.YtiebeiloooblpaaW.PrintWords Go.Proofs.YtiebeiloooblpaaW.PrintLast Go.Proofs.YtiebeiloooblpaaW.PrintMore
attribute [local go_sem] max2_int min2_int max_two min_two max_three min_three max_four min_four   -- for this text's walks alone
set_option linter.unusedVariables false
set_option linter.unusedSimpArgs false

/-! ### entries_Advance: function 25 -/
section
open Go.Proofs.YtiebeiloooblpaaH2
open Go.Proofs.YtiebeiloooblpaaVAL

-- IMPORT Derived.Lib.Slices
def entries_Advance.f (k : Nat) (a0_0 : Int) (a0_1 : Int) (l0_2 : List (S33)) (a0_3 : Int) (a1 : Int) (l2 : List Int) : Option (Int × Int × (List (S33)) × Int × Int) :=
  (entries_Check.f k a0_0 a0_1 l0_2 a0_3).bind fun c => if c = 0 then (if a1 < 1 ∨ 1000000 < a1 ∨ (l2.length : Int) < 1 ∨ 7 < (l2.length : Int) ∨ Lib.minOf l2 < 0 then some (0, 0, [], 0, 1) else
    (slices_insertionSortOrdered_int.f k l2 0 (l2.length : Int)).bind fun row => (entries_TermAt.f k a0_0 a0_1 l0_2 a0_3 (rd row (((l2.length - 1) / 2 : Nat) : Int))).bind fun t =>
      if l0_2.length < 4398046511104 then (if a0_3 < rd row (((l2.length - 1) / 2 : Nat) : Int) ∧ t.2 = true ∧ t.1 = a1 then some (a0_0, a0_1, l0_2, rd row (((l2.length - 1) / 2 : Nat) : Int), 0) else some (a0_0, a0_1, l0_2, a0_3, 0)) else none) else some (0, 0, [], 0, 80)
theorem entries_Advance.mono : ∀ a0 a1 a2 a3 a4 a5 k, LeO (entries_Advance.f k a0 a1 a2 a3 a4 a5) (entries_Advance.f (k + 1) a0 a1 a2 a3 a4 a5) := by
  intro a0 a1 a2 a3 a4 a5 k
  unfold entries_Advance.f
  refine LeO.bind (entries_Check.mono _ _ _ _ _) (fun c => LeO.ite (LeO.ite (LeO.refl _) ?_) (LeO.refl _))
  exact LeO.bind (slices_insertionSortOrdered_int.mono _ _ _ _) (fun _ => LeO.bind (entries_TermAt.mono _ _ _ _ _ _) (fun _ => LeO.refl _))
set_option maxHeartbeats 4000000 in
set_option maxRecDepth 100000 in
theorem entries_Advance.len64 (x : Int) (w : World) (h0 : 0 ≤ x) (h1 : x < 256) :
    Calls Try.prog 71 #[.int .u64 x] w fun e w' => (∃ y, e = .returned (.int .i64 y)) ∧ w' = w := by
  have d1 : decide (x < 4294967296) = true := decide_eq_true (by omega)
  have d2 : decide (x < 65536) = true := decide_eq_true (by omega)
  have d3 : decide (x < 256) = true := decide_eq_true h1
  go_enter Try.func71, Try.ntmps71
  go_wp2
  all_goals (go_ret; exact ⟨⟨_, rfl⟩, rfl⟩)
theorem entries_Advance.len (x : Int) (w : World) (h0 : 0 ≤ x) (h1 : x < 256) :
    Calls Try.prog 60 #[.int .u64 x] w fun e w' => (∃ y, e = .returned (.int .i64 y)) ∧ w' = w := by
  go_enter Try.func60, Try.ntmps60
  go_wp2_with (go_at_call 71; refine (entries_Advance.len64 x _ h0 h1).mono ?_; rintro e w' ⟨⟨y, rfl⟩, rfl⟩)
  go_ret
  exact ⟨⟨y, rfl⟩, rfl⟩
set_option maxHeartbeats 4000000 in
set_option maxRecDepth 100000 in
theorem entries_Advance.pdq (k : Nat) (P0_ : Nat → Prop) (u : Value) (l r : List Int) (lim : Int) (w0 w : World) (hB : Below w0.heap.size w0 w) (ho0 : Kd.R (Kd.int .i64) 3 w w0.heap.size P0_ u l) (hn : l.length ≤ 12) (h : slices_insertionSortOrdered_int.f k l 0 (l.length : Int) = some r) :
    Calls Try.prog 59 #[u, .int .i64 0, .int .i64 (l.length : Int), .int .i64 lim] w fun e w' => e = .returned (.tuple #[]) ∧ Kd.R (Kd.int .i64) 3 w' w0.heap.size (fun k_ => (P0_ k_ ∨ w.heap.size ≤ k_)) u r ∧ Below w0.heap.size w0 w' := by
  have hin : Calls Try.prog 61 #[u, .int .i64 0, .int .i64 (l.length : Int)] w fun e w' => e = .returned (.tuple #[]) ∧ Kd.R (Kd.int .i64) 3 w' w0.heap.size (fun k_ => (P0_ k_ ∨ w.heap.size ≤ k_)) u r ∧ Below w0.heap.size w0 w' :=
    (slices_insertionSortOrdered_int.calls k P0_ u l 0 (l.length : Int) r w0 w hB ho0 h).mono (fun e w' ⟨h1, h2, h3, _⟩ => ⟨h1, h2, h3⟩)
  have HIN := Aside0.mk hin
  clear hin hB ho0 h
  obtain ⟨n, hln⟩ : ∃ n : Int, n = (l.length : Int) := ⟨_, rfl⟩
  have h0 : 0 ≤ n := by omega
  have h1 : n ≤ 12 := by omega
  rw [← hln] at HIN ⊢
  clear hln hn
  have e1 : wrap64 (n - 0) = n := by unfold wrap64; omega
  have d1 : decide (n ≤ 12) = true := decide_eq_true h1
  go_enter Try.func59, Try.ntmps59
  go_wp2_with fail
  go_loop [1, 2] (fun a b => a = .int .i64 0 ∧ b = .int .i64 n) (fun _ _ => 0)
  case atStart => exact ⟨rfl, rfl⟩
  case round =>
    obtain ⟨rfl, rfl⟩ := hrel
    go_wp2_with (go_at_call 61; refine HIN.out.mono ?_; rintro e w' ⟨rfl, ho, hb⟩)
    refine bodyPost_ret (results_none rfl _ _ _) rfl ?_
    exact ⟨rfl, ho, hb⟩
theorem entries_Advance.sort (k : Nat) (P0_ : Nat → Prop) (u : Value) (l r : List Int) (w0 w : World) (hB : Below w0.heap.size w0 w) (ho0 : Kd.R (Kd.int .i64) 3 w w0.heap.size P0_ u l) (hn : l.length ≤ 12) (h : slices_insertionSortOrdered_int.f k l 0 (l.length : Int) = some r) :
    Calls Try.prog 56 #[u] w fun e w' => e = .returned (.tuple #[]) ∧ Kd.R (Kd.int .i64) 3 w' w0.heap.size (fun k_ => (P0_ k_ ∨ w.heap.size ≤ k_)) u r ∧ Below w0.heap.size w0 w' ∧ r.length = l.length := by
  have hq := fun lim => entries_Advance.pdq k P0_ u l r lim w0 w hB ho0 hn h
  have HQ := Aside0.mk hq
  obtain ⟨A, c, rfl⟩ := Kd.R_slice ho0
  clear hq hB ho0 h
  obtain ⟨n, hln⟩ : ∃ n : Nat, n = l.length := ⟨_, rfl⟩
  rw [← hln] at HQ hn
  have HLN := Aside0.mk hln
  rw [show (Value.slice A l.length c) = Value.slice A n c by rw [hln]]
  clear hln
  have hw := fun (w : World) => entries_Advance.len (n : Int) w (by omega) (by omega)
  have HW := Aside0.mk hw
  clear hw
  go_enter Try.func56, Try.ntmps56
  have e1 : (n : Int) % 18446744073709551616 = n := by omega
  go_wp2_with (first
    | (go_at_call 60; refine (HW.out _).mono ?_; rintro e w' ⟨⟨y, rfl⟩, rfl⟩)
    | (go_at_call 59; refine (HQ.out _).mono ?_; rintro e w' ⟨rfl, ho, hb⟩))
  go_end0
  obtain ⟨A', c', e'⟩ := Kd.R_slice ho
  injection e' with _ e' _
  exact ⟨rfl, ho, hb, e'.symm.trans HLN.out⟩
theorem entries_Advance.sorted (k : Nat) (Bs : Nat) (A : Option Addr) (c : Nat) (l r : List Int) (w : World) (hl0 : 0 < l.length) (hn : l.length ≤ 12) (hc0 : w.cell? ⟨Bs, 0, none⟩ = some (.slice A l.length c)) (hC : Kd.C (Kd.int .i64) w A l.length l) (h : slices_insertionSortOrdered_int.f k l 0 (l.length : Int) = some r) :
    Calls Try.prog 49 #[.func (.func 57) #[] #[.pointer (some ⟨Bs, 0, none⟩)]] w fun e w' => ∃ v, e = .returned v ∧ Kd.R (Kd.int .i64) 3 w' w.heap.size (fun _ => True) v r ∧ Below w.heap.size w w' ∧ r.length = l.length := by
  have hq := collect_calls Bs A c l hl0 (by omega) w hc0 hC
  have HQ := Aside0.mk hq
  have HH := Aside0.mk h
  have HN := Aside0.mk hn
  clear hq h hn hc0 hC
  go_enter Try.func49, Try.ntmps49
  go_wp2_with (first
    | (go_at_call 55; refine HQ.out.mono ?_; rintro e w1 ⟨v, rfl, ho, hb⟩; have HO := Aside0.mk ho; have HB := Aside0.mk hb; clear ho hb)
    | (go_at_call 56; refine (entries_Advance.sort k _ v l r w w1 HB.out HO.out HN.out HH.out).mono ?_; rintro e w2 ⟨rfl, ho2, hb2, hl2⟩; have HO2 := Aside0.mk ho2; have HB2 := Aside0.mk hb2; have HL2 := Aside0.mk hl2; clear ho2 hb2 hl2))
  go_ret
  exact ⟨v, rfl, Kd.R_mono HO2.out (fun _ _ => trivial), HB2.out, HL2.out⟩
theorem entries_Advance.values (A : Option Addr) (n c : Nat) (w : World) :
    Calls Try.prog 50 #[.slice A n c] w fun e w' => e = .returned (.func (.func 57) #[] #[.pointer (some ⟨w.heap.size, 0, none⟩)]) ∧ w' = w.alloc (.cells #[.slice A n c] 47) := by
  go_enter Try.func50, Try.ntmps50
  go_wp2
  go_ret
  exact ⟨rfl, rfl⟩
set_option maxHeartbeats 8000000 in
set_option maxRecDepth 100000 in
theorem entries_Advance.calls (k : Nat) (a0_0 : Int) (a0_1 : Int) (A0_2 : Option Addr) (c0_2 : Nat) (l0_2 : List (S33)) (a0_3 : Int) (a1 : Int) (A2 : Option Addr) (c2 : Nat) (l2 : List Int) (r1 : Int) (r2 : Int) (r3 : List (S33)) (r4 : Int) (r5 : Int) (w : World) (hr0_2 : Kd.C k33 w A0_2 l0_2.length l0_2) (hc0_2 : l0_2.length ≤ c0_2) (hr2 : Kd.C (Kd.int .i64) w A2 l2.length l2) (hc2 : l2.length ≤ c2) (h : entries_Advance.f k a0_0 a0_1 l0_2 a0_3 a1 l2 = some (r1, r2, r3, r4, r5)) :
    Calls Try.prog 25 #[.agg #[.int .i64 a0_0, .int .i64 a0_1, .slice A0_2 l0_2.length c0_2, .int .i64 a0_3], .int .i64 a1, .slice A2 l2.length c2] w fun e w' => ∃ v2_ : Value, e = .returned (.tuple #[.agg #[.int .i64 r1, .int .i64 r2, v2_, .int .i64 r4], .int .i64 r5]) ∧ Kd.R k33 33 w' w.heap.size (fun _ => True) v2_ r3 ∧ Below w.heap.size w w' := by
  have hu := Try.underlying26
  have HR := Aside0.mk hr0_2
  have HC := Aside0.mk hc0_2
  have HR2 := Aside0.mk hr2
  have HC2 := Aside0.mk hc2
  clear hr0_2 hc0_2 hr2 hc2
  unfold entries_Advance.f at h
  replace h := Option.bind_eq_some_iff.1 h
  obtain ⟨c, hchk, h⟩ := h
  have HCHK := Aside0.mk hchk
  clear hchk
  have H := Aside0.mk h
  clear h
  go_enter Try.func25, Try.ntmps25
  go_wp2_with fail
  refine (entries_Check.calls k a0_0 a0_1 A0_2 c0_2 l0_2 a0_3 c _ (Kd.C_alloc (Kd.C_alloc HR.out _) _) HC.out HCHK.out).mono ?_
  rintro e w1 ⟨rfl, hB⟩
  replace hB := two_boxes w _ _ hB
  obtain ⟨b1, b3, hB, hsz⟩ := hB
  obtain ⟨z0, z1, z2, z3, g0, g1, g2, g3⟩ := cells4 b1
  obtain ⟨y0, y1, y2, y3, f0, f1, f2, f3⟩ := cells4 b3
  have B1 := Aside0.mk b1
  have B3 := Aside0.mk b3
  have HB := Aside0.mk hB
  clear b1 b3 hB hsz
  by_cases hc : c = 0
  · have H := H.out
    rw [if_pos hc] at H
    have hcn : (c != 0) = false := by simp [hc]
    clear hc HCHK
    have hwi : ∀ W : World, Calls Try.prog 42 #[.int .i64 a1, .int .i64 1, .int .i64 1000000] W fun e w' => e = .returned (.bool (decide (1 ≤ a1) && decide (a1 ≤ 1000000))) ∧ Drawn0 W w' := fun W => by
      refine entries_within.calls a1 1 1000000 _ W ?_
      unfold entries_within.f
      by_cases h : 1 ≤ a1 <;> simp [h]
    have hwl : ∀ W : World, Calls Try.prog 42 #[.int .i64 (l2.length : Int), .int .i64 1, .int .i64 7] W fun e w' => e = .returned (.bool (decide (1 ≤ (l2.length : Int)) && decide ((l2.length : Int) ≤ 7))) ∧ Drawn0 W w' := fun W => by
      refine entries_within.calls (l2.length : Int) 1 7 _ W ?_
      unfold entries_within.f
      by_cases h : 1 ≤ (l2.length : Int) <;> simp [h]
    have FIN : ∀ (w2 : World) (tm : Array Value) (d : List Deferred), w2.heap[w.heap.size + 1]? = w1.heap[w.heap.size + 1]? → Below w.heap.size w w2 → tm.getD 6 undef = .pointer (some ⟨w.heap.size + 1, 0, none⟩) → tm.getD 7 undef = .int .i64 1 → d = [] →
        bodyPost Try.prog Try.f25 (fun e w' => ∃ v2_ : Value, e = .returned (.tuple #[.agg #[.int .i64 0, .int .i64 0, v2_, .int .i64 0], .int .i64 1]) ∧ Kd.R k33 33 w' w.heap.size (fun _ => True) v2_ [] ∧ Below w.heap.size w w') Exit.ret
          { tmps := tm, defers := d } ((((w2.setCell ⟨w.heap.size + 1, 0, none⟩ (.int .i64 0)).setCell ⟨w.heap.size + 1, 1, none⟩ (.int .i64 0)).setCell ⟨w.heap.size + 1, 2, none⟩ (.slice none 0 0)).setCell ⟨w.heap.size + 1, 3, none⟩ (.int .i64 0)) := by
      intro w2 tm d h0 hb h1 h2 h4
      refine bodyPost_ret (results_ct rfl _ _ (w.heap.size + 1) 26 #[.int .i64 0, .int .i64 0, .slice none 0 0, .int .i64 0] (0, 0) _ h1 (store4 (h0.trans B3.out) _ _ _ _) Try.underlying26 rfl (by kernel_rfl)) h4 ?_
      rw [h2]
      exact ⟨_, rfl, Kd.R_nil _ _ _ _ _, below4 hb (by omega) _ _ _ _⟩
    have FIN := Aside0.mk FIN
    by_cases hbad : a1 < 1 ∨ 1000000 < a1 ∨ (l2.length : Int) < 1 ∨ 7 < (l2.length : Int) ∨ Lib.minOf l2 < 0
    · rw [if_pos hbad] at H
      simp only [Option.some.injEq, Prod.mk.injEq] at H
      obtain ⟨rfl, rfl, rfl, rfl, rfl⟩ := H
      cases q1 : (decide (1 ≤ a1) && decide (a1 ≤ 1000000)) with
      | false =>
        rw [q1] at hwi
        have HW := Aside0.mk hwi
        clear hwi hwl hbad q1
        go_wp2_with (first | (go_at_call 42; refine (HW.out _).mono ?_; rintro e w2 ⟨rfl, ⟨nd, rfl⟩⟩))
        exact FIN.out _ _ _ rfl (pw_below_drewN HB.out _) rfl rfl rfl
      | true =>
        cases q2 : (decide (1 ≤ (l2.length : Int)) && decide ((l2.length : Int) ≤ 7)) with
        | false =>
          rw [q1] at hwi
          rw [q2] at hwl
          have HW := Aside0.mk hwi
          have HL := Aside0.mk hwl
          clear hwi hwl hbad q1 q2
          go_wp2_with (first | (go_at_call 42; with_reducible refine (HW.out _).mono ?_; rintro e w2 ⟨rfl, ⟨nd, rfl⟩⟩) | (go_at_call 42; with_reducible refine (HL.out _).mono ?_; rintro e w2 ⟨rfl, ⟨nd2, rfl⟩⟩))
          exact FIN.out _ _ _ rfl (pw_below_drewN HB.out _) rfl rfl rfl
        | true =>
          have hl0 : 0 < l2.length := by simp only [Bool.and_eq_true, decide_eq_true_eq] at q2; omega
          have hneg : decide (Lib.minOf l2 < 0) = true := by
            simp only [Bool.and_eq_true, decide_eq_true_eq] at q1 q2 ⊢
            omega
          have hmin : ∀ W : World, Kd.C (Kd.int .i64) W A2 l2.length l2 → Calls Try.prog 48 #[.slice A2 l2.length c2] W fun e w' => e = .returned (.int .i64 (Lib.minOf l2)) ∧ Drawn0 W w' := fun W hW => slices_Min_int.calls A2 c2 l2 _ W hW HC2.out (by unfold slices_Min_int.f; rw [if_pos hl0])
          rw [q1] at hwi
          rw [q2] at hwl
          have HW := Aside0.mk hwi
          have HL := Aside0.mk hwl
          have HM := Aside0.mk hmin
          clear hwi hwl hbad q1 q2 hmin hl0
          go_wp2_with (first | (go_at_call 42; with_reducible refine (HW.out _).mono ?_; rintro e w2 ⟨rfl, ⟨nd, rfl⟩⟩) | (go_at_call 42; with_reducible refine (HL.out _).mono ?_; rintro e w2 ⟨rfl, ⟨nd2, rfl⟩⟩) | (go_at_call 48; refine (HM.out _ (Kd.C_drewN (Kd.C_below HR2.out HB.out) _)).mono ?_; rintro e w2 ⟨rfl, ⟨nd3, rfl⟩⟩))
          exact FIN.out _ _ _ rfl (pw_below_drewN HB.out _) rfl rfl rfl
    · rw [if_neg hbad] at H
      have q1 : (decide (1 ≤ a1) && decide (a1 ≤ 1000000)) = true := by simp only [Bool.and_eq_true, decide_eq_true_eq]; omega
      have q2 : (decide (1 ≤ (l2.length : Int)) && decide ((l2.length : Int) ≤ 7)) = true := by simp only [Bool.and_eq_true, decide_eq_true_eq]; omega
      have hl0 : 0 < l2.length := by omega
      have hl12 : l2.length ≤ 7 := by omega
      have hneg : decide (Lib.minOf l2 < 0) = false := decide_eq_false (by omega)
      have hmin : ∀ W : World, Kd.C (Kd.int .i64) W A2 l2.length l2 → Calls Try.prog 48 #[.slice A2 l2.length c2] W fun e w' => e = .returned (.int .i64 (Lib.minOf l2)) ∧ Drawn0 W w' := fun W hW => slices_Min_int.calls A2 c2 l2 _ W hW HC2.out (by unfold slices_Min_int.f; rw [if_pos hl0])
      rw [q1] at hwi
      rw [q2] at hwl
      have HW := Aside0.mk hwi
      have HL := Aside0.mk hwl
      have HM := Aside0.mk hmin
      clear hwi hwl hbad q1 q2 hmin FIN
      replace H := Option.bind_eq_some_iff.1 H
      obtain ⟨row, hrow, H⟩ := H
      replace H := Option.bind_eq_some_iff.1 H
      obtain ⟨⟨t1, t2⟩, ht, H⟩ := H
      have HROW := Aside0.mk hrow
      have HT := Aside0.mk ht
      have HH := Aside0.mk H
      have HLN := Aside0.mk (show 0 < l2.length ∧ l2.length ≤ 7 from ⟨hl0, hl12⟩)
      clear hrow ht H hl0 hl12
      go_wp2_with (first | (go_at_call 42; with_reducible refine (HW.out _).mono ?_; rintro e w2 ⟨rfl, ⟨nd, rfl⟩⟩) | (go_at_call 42; with_reducible refine (HL.out _).mono ?_; rintro e w2 ⟨rfl, ⟨nd2, rfl⟩⟩) | (go_at_call 48; refine (HM.out _ (Kd.C_drewN (Kd.C_below HR2.out HB.out) _)).mono ?_; rintro e w2 ⟨rfl, ⟨nd3, rfl⟩⟩))
      obtain ⟨nn, hnn⟩ : ∃ nn, nn = nd + nd2 + nd3 := ⟨_, rfl⟩
      rw [← hnn]
      clear hnn
      refine (entries_Advance.values A2 l2.length c2 _).mono ?_
      rintro e w2 ⟨rfl, rfl⟩
      have hnewc : ((w1.drewN nn).alloc (.cells #[.slice A2 l2.length c2] 47)).cell? ⟨(w1.drewN nn).heap.size, 0, none⟩ = some (.slice A2 l2.length c2) := (blk_cell (blk_new (w1.drewN nn) _) 0).trans rfl
      have HNC := Aside0.mk hnewc
      clear hnewc
      go_wp2_with fail
      refine (entries_Advance.sorted k _ A2 c2 l2 row _ HLN.out.1 (by have := HLN.out.2; omega) HNC.out (Kd.C_alloc (Kd.C_drewN (Kd.C_below HR2.out HB.out) _) _) HROW.out).mono ?_
      rintro e w3 ⟨v, rfl, hR3, hB3, hlen3⟩
      have b1 := blk_below (blk_alloc (blk_drewN B1.out nn) _) hB3
      have b3 := blk_below (blk_alloc (blk_drewN B3.out nn) _) hB3
      have hB3' := below_step (below_alloc (pw_below_drewN HB.out nn) _) hB3
      obtain ⟨A3, n3, hv3⟩ := Kd.R_slice hR3
      subst hv3
      have HR3 := Aside0.mk hR3
      clear B1 B3 HB HNC hB3 hR3 z0 z1 z2 z3 g0 g1 g2 g3 y0 y1 y2 y3 f0 f1 f2 f3
      have B1 := Aside0.mk b1
      have B3 := Aside0.mk b3
      have HB := Aside0.mk hB3'
      clear b1 b3 hB3'
      obtain ⟨z0, z1, z2, z3, g0, g1, g2, g3⟩ := cells4 B1.out
      obtain ⟨y0, y1, y2, y3, f0, f1, f2, f3⟩ := cells4 B3.out
      obtain ⟨m, hm⟩ : ∃ m : Int, m = rd row (((l2.length - 1) / 2 : Nat) : Int) := ⟨_, rfl⟩
      rw [← hm] at HH HT
      obtain ⟨n, hln⟩ : ∃ n : Nat, n = row.length := ⟨_, rfl⟩
      rw [← hlen3, ← hln] at hm
      have hn7 : 1 ≤ n ∧ n ≤ 7 := by have := HLN.out; omega
      rw [show Value.slice A3 row.length n3 = Value.slice A3 n n3 by rw [hln]]
      have hcell : ∃ ad, A3 = some ad ∧ w3.cell? (ad.add ((n - 1) / 2)) = some (.int .i64 m) := by
        obtain ⟨-, -, hC⟩ := Kd.R_reads' HR3.out
        obtain ⟨ad, e, h⟩ := Kd.at_int hC (((n - 1) / 2 : Nat) : Int) (by omega) (by omega)
        exact ⟨ad, e, by rw [hm]; rw [Int.toNat_natCast] at h; exact h⟩
      obtain ⟨ad, rfl, hcell⟩ := hcell
      have HM := Aside0.mk hm
      have HLN2 := Aside0.mk hln
      clear hm hln hlen3
      have q0 : (0 : Int) ≤ (n : Int) - 1 := by omega
      have q1 : ((n : Int) - 1) / 2 = (((n - 1) / 2 : Nat) : Int) := by omega
      have q3 : (((n - 1) / 2 : Nat) : Int) < (n : Int) := by omega
      have q4 : (0 : Int) ≤ (((n - 1) / 2 : Nat) : Int) := by omega
      by_cases hl : l0_2.length < 4398046511104
      · have H := HH.out
        rw [if_pos hl] at H
        have HL := Aside0.mk hl
        have HD := Aside0.mk H
        clear hl H
        go_wp2_with fail
        refine (slicesClone_Entry.calls A0_2 c0_2 l0_2 l0_2 w3 (Kd.C_below HR.out HB.out) HC.out (by unfold slicesClone_Entry.f; rw [if_pos HL.out])).mono ?_
        rintro e w4 ⟨v, rfl, hR4, hB4⟩
        obtain ⟨A4, n4, hv4⟩ := Kd.R_slice hR4
        subst hv4
        have b1 := blk_below B1.out hB4
        have b3 := blk_below B3.out hB4
        have HR4 := Aside0.mk (Kd.R_lower hR4 HB.out.size)
        have HB4 := Aside0.mk (below_step HB.out hB4)
        clear B1 B3 HB hB4 hR4 z0 z1 z2 z3 g0 g1 g2 g3 y0 y1 y2 y3 f0 f1 f2 f3 hcell
        have B1 := Aside0.mk b1
        have B3 := Aside0.mk b3
        clear b1 b3
        obtain ⟨z0, z1, z2, z3, g0, g1, g2, g3⟩ := cells4 B1.out
        have B1' := Aside0.mk (blk_put (cs := #[.int .i64 a0_0, .int .i64 a0_1, .slice A0_2 l0_2.length c0_2, .int .i64 a0_3]) (cs' := #[.int .i64 a0_0, .int .i64 a0_1, .slice A4 l0_2.length n4, .int .i64 a0_3]) B1.out 2 (.slice A4 l0_2.length n4) rfl)
        have B3' := Aside0.mk (blk_far B3.out (show w.heap.size + 1 ≠ w.heap.size by omega) (p := ⟨w.heap.size, 2, none⟩) (.slice A4 l0_2.length n4))
        have HR4' := Aside0.mk (Kd.R_set HR4.out B1.out (by decide) 2 (.slice A4 l0_2.length n4))
        have HB4' := Aside0.mk (below_set (j := 2) (v := .slice A4 l0_2.length n4) HB4.out (Nat.le_refl _))
        clear B3 HR4 HB4
        go_wp2_with fail
        refine (entries_TermAt.calls k a0_0 a0_1 A4 n4 l0_2 a0_3 m t1 t2 _ (Kd.R_reads' HR4'.out).2.2 (Kd.R_reads' HR4'.out).2.1 HT.out).mono ?_
        rintro e w5 ⟨rfl, hB5⟩
        have b1 := blk_below B1'.out hB5
        have b3 := blk_below B3'.out hB5
        have HR5 := Aside0.mk (Kd.R_below HR4'.out hB5)
        have HB5 := Aside0.mk (below_step HB4'.out hB5)
        clear B1 B1' B3' HR4' HB4' z0 z1 z2 z3 g0 g1 g2 g3 hB5 HT
        have B1 := Aside0.mk b1
        have B3 := Aside0.mk b3
        clear b1 b3
        obtain ⟨z0, z1, z2, z3, g0, g1, g2, g3⟩ := cells4 B1.out
        obtain ⟨y0, y1, y2, y3, f0, f1, f2, f3⟩ := cells4 B3.out
        by_cases hcm : a0_3 < m ∧ t2 = true ∧ t1 = a1
        · have H := HD.out
          rw [if_pos hcm] at H
          simp only [Option.some.injEq, Prod.mk.injEq] at H
          obtain ⟨rfl, rfl, rfl, rfl, rfl⟩ := H
          obtain ⟨hlt, rfl, rfl⟩ := hcm
          have e1 : decide (a0_3 < m) = true := decide_eq_true hlt
          clear hlt HD HH
          go_wp2
          refine bodyPost_ret (results_ct rfl _ _ (w.heap.size + 1) 26 #[.int .i64 a0_0, .int .i64 a0_1, .slice A4 l0_2.length n4, .int .i64 m] (0, 0) _ rfl (store4 (blk_far B3.out (show w.heap.size + 1 ≠ w.heap.size by omega) _) _ _ _ _) Try.underlying26 rfl (by kernel_rfl)) rfl ?_
          exact ⟨_, rfl, R_far4 (Kd.R_set HR5.out B1.out (by decide) 3 _) (blk_far B3.out (show w.heap.size + 1 ≠ w.heap.size by omega) _) (by decide) _ _ _ _, below4 (below_set HB5.out (Nat.le_refl _)) (by omega) _ _ _ _⟩
        · have H := HD.out
          rw [if_neg hcm] at H
          simp only [Option.some.injEq, Prod.mk.injEq] at H
          obtain ⟨rfl, rfl, rfl, rfl, rfl⟩ := H
          have alts : decide (a0_3 < m) = false ∨ (decide (a0_3 < m) = true ∧ t2 = false) ∨ (decide (a0_3 < m) = true ∧ t2 = true ∧ (t1 == a1) = false) := by
            by_cases h1 : a0_3 < m
            · cases t2 with
              | false => exact .inr (.inl ⟨decide_eq_true h1, rfl⟩)
              | true => exact .inr (.inr ⟨decide_eq_true h1, rfl, by simpa using fun h => hcm ⟨h1, rfl, h⟩⟩)
            · exact .inl (decide_eq_false h1)
          clear hcm HD HH
          rcases alts with e1 | ⟨e1, rfl⟩ | ⟨e1, rfl, e2⟩
          all_goals
            go_wp2
            refine bodyPost_ret (results_ct rfl _ _ (w.heap.size + 1) 26 #[.int .i64 a0_0, .int .i64 a0_1, .slice A4 l0_2.length n4, .int .i64 a0_3] (0, 0) _ rfl (store4 B3.out _ _ _ _) Try.underlying26 rfl (by kernel_rfl)) rfl ?_
            exact ⟨_, rfl, R_far4 HR5.out B3.out (by decide) _ _ _ _, below4 HB5.out (by omega) _ _ _ _⟩
      · have H := HH.out
        rw [if_neg hl] at H
        cases H
  · have H := H.out
    rw [if_neg hc] at H
    have hcn : (c != 0) = true := by simp [hc]
    clear hc HCHK
    simp only [Option.some.injEq, Prod.mk.injEq] at H
    obtain ⟨rfl, rfl, rfl, rfl, rfl⟩ := H
    go_wp2
    refine bodyPost_ret (results_ct rfl _ _ (w.heap.size + 1) 26 #[.int .i64 0, .int .i64 0, .slice none 0 0, .int .i64 0] (0, 0) _ rfl (store4 B3.out _ _ _ _) Try.underlying26 rfl (by kernel_rfl)) rfl ?_
    exact ⟨_, rfl, Kd.R_nil _ _ _ _ _, below4 HB.out (by omega) _ _ _ _⟩

end

end Go.Proofs.Ytiebeiloooblpaa.E
end
section
-- written by myprint.py, a program of this session over the kit's print.py
namespace Go.Proofs.Ytiebeiloooblpaa.E
open Go.Proofs.YtiebeiloooblpaaST
open Go.RowKit Go.Proofs.YtiebeiloooblpaaW.PrintWords Go.Proofs.YtiebeiloooblpaaW.PrintLast Go.Proofs.YtiebeiloooblpaaW.PrintMore
attribute [local go_sem] max2_int min2_int max_two min_two max_three min_three max_four min_four   -- for this text's walks alone
set_option linter.unusedVariables false
set_option linter.unusedSimpArgs false

/-! ### entries_Last: function 32 -/
def entries_Last.f (k : Nat) (a0_0 : Int) (a0_1 : Int) (l0_2 : List (S33)) (a0_3 : Int) : Option (Int × Int) := (entries_Check.f k a0_0 a0_1 l0_2 a0_3).bind fun t282 => (if t282 = 0 then ((entries_end.f a0_0 a0_1 l0_2 a0_3).bind fun t283 => ((entries_TermAt.f k a0_0 a0_1 l0_2 a0_3 t283).bind fun bt284 => ((entries_end.f a0_0 a0_1 l0_2 a0_3).bind fun t286 => (some (t286, bt284.1))))) else (some (0, 0)))
theorem entries_Last.mono : ∀ a0 a1 a2 a3 k, LeO (entries_Last.f k a0 a1 a2 a3) (entries_Last.f (k + 1) a0 a1 a2 a3) := by
  intro a0 a1 a2 a3 k
  unfold entries_Last.f
  repeat' first
      | (with_reducible exact entries_Check.mono _ _ _ _ _)
      | (with_reducible exact entries_TermAt.mono _ _ _ _ _ _)
      | (with_reducible exact LeO.refl _)
      | (with_reducible exact LeO.none _)
      | (with_reducible refine LeO.ite ?_ ?_)
      | (with_reducible refine LeO.bind ?_ (fun _ => ?_))
      | exact entries_Check.mono _ _ _ _ _
      | exact entries_TermAt.mono _ _ _ _ _ _
      | exact LeO.none _
      | refine LeO.ite ?_ ?_
      | refine LeO.bind ?_ (fun _ => ?_)
def entries_Last.T3 : Bool × List (List Nat × List Nat) := (true, [([], []), ([], []), ([1], [1]), ([0, 2, 2], [0, 2]), ([3], [3]), ([4], [4]), ([4], [4]), ([5, 3, 0, 1, 2, 3, 4, 5], [5]), ([6, 7, 0, 1, 2, 3, 4, 5, 6, 7], [6])])
def entries_Last.B3 : List Nat := [0, 0, 2, 7, 15, 31, 31, 63, 255]
theorem entries_Last.tab3 : rtab .any (opsOf Try.f32 3) = entries_Last.T3 := by kernel_rfl
theorem entries_Last.bits3 : waitsOk entries_Last.T3.2 entries_Last.B3 = true := by kernel_rfl
set_option maxHeartbeats 8000000 in
set_option maxRecDepth 100000 in
theorem entries_Last.calls (k : Nat) (a0_0 : Int) (a0_1 : Int) (A0_2 : Option Addr) (c0_2 : Nat) (l0_2 : List (S33)) (a0_3 : Int) (r1 : Int) (r2 : Int) (w : World) (hr0_2 : Kd.C k33 w A0_2 l0_2.length l0_2) (hc0_2 : l0_2.length ≤ c0_2) (h : entries_Last.f k a0_0 a0_1 l0_2 a0_3 = some (r1, r2)) :
    Calls Try.prog 32 #[.agg #[.int .i64 a0_0, .int .i64 a0_1, .slice A0_2 l0_2.length c0_2, .int .i64 a0_3]] w fun e w' => e = .returned (.agg #[.int .i64 r1, .int .i64 r2]) ∧ Below w.heap.size w w' := by
  have hu26 := Try.underlying26
  have hu23 := Try.underlying23
  have HR0_2 := Aside0.mk hr0_2
  have HC0_2 := Aside0.mk hc0_2
  clear hr0_2 hc0_2
  have HB := Aside0.mk (Below.refl w.heap.size w)
  have H : ((entries_Check.f k a0_0 a0_1 l0_2 a0_3).bind fun t282 => (if t282 = 0 then ((entries_end.f a0_0 a0_1 l0_2 a0_3).bind fun t283 => ((entries_TermAt.f k a0_0 a0_1 l0_2 a0_3 t283).bind fun bt284 => ((entries_end.f a0_0 a0_1 l0_2 a0_3).bind fun t286 => (some (t286, bt284.1))))) else (some (0, 0)))) = some (r1, r2) := h
  clear h
  replace H := Option.bind_eq_some_iff.mp H
  obtain ⟨t282, A20, H⟩ := H
  replace H : (if t282 = 0 then ((entries_end.f a0_0 a0_1 l0_2 a0_3).bind fun t283 => ((entries_TermAt.f k a0_0 a0_1 l0_2 a0_3 t283).bind fun bt284 => ((entries_end.f a0_0 a0_1 l0_2 a0_3).bind fun t286 => (some (t286, bt284.1))))) else (some (0, 0))) = some (r1, r2) := H
  have A2 := Aside0.mk A20
  clear A20
  by_cases c3 : t282 = 0
  · rw [if_pos c3] at H
    have c3b0 : (t282 == 0) = true := beq_iff_eq.mpr c3
    have c3b1 : (t282 != 0) = false := bne_eq_false_iff_eq.mpr c3
    clear c3
    replace H := Option.bind_eq_some_iff.mp H
    obtain ⟨t283, A40, H⟩ := H
    replace H : ((entries_TermAt.f k a0_0 a0_1 l0_2 a0_3 t283).bind fun bt284 => ((entries_end.f a0_0 a0_1 l0_2 a0_3).bind fun t286 => (some (t286, bt284.1)))) = some (r1, r2) := H
    have A4 := Aside0.mk A40
    clear A40
    replace H := Option.bind_eq_some_iff.mp H
    obtain ⟨⟨t284, t285⟩, A50, H⟩ := H
    replace H : ((entries_end.f a0_0 a0_1 l0_2 a0_3).bind fun t286 => (some (t286, t284))) = some (r1, r2) := H
    have A5 := Aside0.mk A50
    clear A50
    replace H := Option.bind_eq_some_iff.mp H
    obtain ⟨t286, A60, H⟩ := H
    replace H : (some (t286, t284)) = some (r1, r2) := H
    have A6 := Aside0.mk A60
    clear A60
    simp only [Option.some.injEq, Prod.mk.injEq] at H
    obtain ⟨rfl, rfl⟩ := H
    go_enter Try.func32, Try.ntmps32
    try go_wp2_with (first | ((with_reducible refine gate_dst (N := 1) rfl ?_); refine box_event ?hg (N := 1) ?hd (cs := #[.int .i64 a0_0, .int .i64 a0_1, .slice A0_2 l0_2.length c0_2, .int .i64 a0_3]) (t := 26) ?hr ?_; (case hd => rfl); (case hg => rfl); (case hr => first | (go_simp; done) | (go_simp; rfl)); intro gb280 hg w7 hbox hb; have n0_ := Aside0.mk (below_step (by repeat (first | (with_reducible first | exact HB.out | apply below_alloc | apply pw_below_drewN | apply below_drew1) | exact HB.out)) hb); have n1_ := Aside0.mk (hbox); have n2_ := Aside0.mk ((by rw [hg]; exact (below_size (by repeat (first | (with_reducible first | exact HB.out | apply below_alloc | apply pw_below_drewN | apply below_drew1) | exact HB.out))) : w.heap.size ≤ gb280)); have n3_ := Aside0.mk ((by rw [hg]; exact (below_size (by repeat (first | (with_reducible first | exact HB.out | apply below_alloc | apply pw_below_drewN | apply below_drew1) | exact HB.out))) : w.heap.size ≤ gb280)); clear HB; have HB := n0_; have BK280 := n1_; have GW280 := n2_; have GE280 := n3_; clear n0_ n1_ n2_ n3_; clear hb hbox hg) | ((with_reducible refine gate_dst (N := 2) rfl ?_); refine box_event ?hg (N := 2) ?hd (cs := #[.int .i64 0, .int .i64 0]) (t := 23) ?hr ?_; (case hd => rfl); (case hg => rfl); (case hr => first | (go_simp; done) | (go_simp; rfl)); intro gb281 hg w8 hbox hb; have n0_ := Aside0.mk (blk_below (g := gb280) (o := .cells #[.int .i64 a0_0, .int .i64 a0_1, .slice A0_2 l0_2.length c0_2, .int .i64 a0_3] 26 (0, 0)) (by (with_reducible repeat (first | refine blk_drewN ?_ _ | refine blk_drew ?_ | refine blk_alloc ?_ _)); exact BK280.out) hb); have n1_ := Aside0.mk (below_step (by repeat (first | (with_reducible first | exact HB.out | apply below_alloc | apply pw_below_drewN | apply below_drew1 | refine below_set ?_ GE280.out) | exact HB.out)) hb); have n2_ := Aside0.mk (hbox); have n3_ := Aside0.mk ((by rw [hg]; exact (below_size (by repeat (first | (with_reducible first | exact HB.out | apply below_alloc | apply pw_below_drewN | apply below_drew1 | refine below_set ?_ GE280.out) | exact HB.out))) : w.heap.size ≤ gb281)); have n4_ := Aside0.mk ((by rw [hg]; exact (below_size (by repeat (first | (with_reducible first | exact HB.out | apply below_alloc | apply pw_below_drewN | apply below_drew1 | refine below_set ?_ GE280.out) | exact HB.out))) : w.heap.size ≤ gb281)); have n5_ := Aside0.mk ((by rw [hg]; exact Nat.ne_of_lt (blk_lt (g := gb280) (o := .cells #[.int .i64 a0_0, .int .i64 a0_1, .slice A0_2 l0_2.length c0_2, .int .i64 a0_3] 26 (0, 0)) (by (with_reducible repeat (first | refine blk_drewN ?_ _ | refine blk_drew ?_ | refine blk_alloc ?_ _)); exact BK280.out)) : gb280 ≠ gb281)); have n6_ := Aside0.mk ((by rw [hg]; exact Nat.ne_of_gt (blk_lt (g := gb280) (o := .cells #[.int .i64 a0_0, .int .i64 a0_1, .slice A0_2 l0_2.length c0_2, .int .i64 a0_3] 26 (0, 0)) (by (with_reducible repeat (first | refine blk_drewN ?_ _ | refine blk_drew ?_ | refine blk_alloc ?_ _)); exact BK280.out)) : gb281 ≠ gb280)); clear BK280; clear HB; have BK280 := n0_; have HB := n1_; have BK281 := n2_; have GW281 := n3_; have GE281 := n4_; have NB280_281 := n5_; have NB281_280 := n6_; clear n0_ n1_ n2_ n3_ n4_ n5_ n6_; clear hb hbox hg; have hnb9 := NB280_281.out; have hnc9 := NB281_280.out; have hcz10_0 : w8.cell? ⟨gb280, 0, none⟩ = some (.int .i64 a0_0) := (blk_cell BK280.out 0).trans rfl; have hcz10_1 : w8.cell? ⟨gb280, 1, none⟩ = some (.int .i64 a0_1) := (blk_cell BK280.out 1).trans rfl; have hcz10_2 : w8.cell? ⟨gb280, 2, none⟩ = some (.slice A0_2 l0_2.length c0_2) := (blk_cell BK280.out 2).trans rfl; have hcz10_3 : w8.cell? ⟨gb280, 3, none⟩ = some (.int .i64 a0_3) := (blk_cell BK280.out 3).trans rfl; have hfz10_0 := blk_frozen BK280.out 0; have hfz10_1 := blk_frozen BK280.out 1; have hfz10_2 := blk_frozen BK280.out 2; have hfz10_3 := blk_frozen BK280.out 3) | ((with_reducible refine gate_callee (f := 30) rfl ?_); refine goesL_ (some 6) rfl rfl Try.func30 (by kernel_rfl) rfl #[.agg #[.int .i64 a0_0, .int .i64 a0_1, .slice A0_2 l0_2.length c0_2, .int .i64 a0_3]] rfl (by (try simp only [List.map_toArray, List.map_cons, List.map_nil]); first | done | rfl | (simp only [List.length_drop, List.length_take]; rfl)) ?_; (with_reducible refine (entries_Check.calls k a0_0 a0_1 _ _ l0_2 a0_3 t282 _ ?side1 ?side2 A2.out).mono ?_); (case side1 => repeat (first | exact (Kd.C_below HR0_2.out HB.out) | (with_reducible refine Kd.C_alloc ?_ _) | (with_reducible refine Kd.C_drewN ?_ _) | (with_reducible refine Kd.C_drew ?_))); (case side2 => exact HC0_2.out); rintro e w11 ⟨rfl, hb⟩; refine ⟨_, rfl, ?_⟩; have n0_ := Aside0.mk (blk_below (g := gb280) (o := .cells #[.int .i64 a0_0, .int .i64 a0_1, .slice A0_2 l0_2.length c0_2, .int .i64 a0_3] 26 (0, 0)) (by (with_reducible repeat (first | refine blk_drewN ?_ _ | refine blk_drew ?_ | refine blk_alloc ?_ _)); exact BK280.out) hb); have n1_ := Aside0.mk (blk_below (g := gb281) (o := .cells #[.int .i64 0, .int .i64 0] 23 (0, 0)) (by (with_reducible repeat (first | refine blk_drewN ?_ _ | refine blk_drew ?_ | refine blk_alloc ?_ _)); exact BK281.out) hb); have n2_ := Aside0.mk (below_step (by repeat (first | (with_reducible first | exact HB.out | apply below_alloc | apply pw_below_drewN | apply below_drew1 | refine below_set ?_ GE280.out | refine below_set ?_ GE281.out) | exact HB.out)) hb); clear BK280; clear BK281; clear HB; have BK280 := n0_; have BK281 := n1_; have HB := n2_; clear n0_ n1_ n2_; (try clear hb); (try clear hb2); (try clear hk); (try clear hi)))
    have n0_ := Aside0.mk (blk_drew BK280.out)
    have n1_ := Aside0.mk (blk_drew BK281.out)
    have n2_ := Aside0.mk (below_drew1 HB.out)
    clear BK280
    clear BK281
    clear HB
    have BK280 := n0_
    have BK281 := n1_
    have HB := n2_
    clear n0_ n1_ n2_
    refine start_ (n := 9) (S := fun w' => w'.cell? ⟨gb280, 0, none⟩ = some (.int .i64 a0_0) ∧ w'.cell? ⟨gb280, 1, none⟩ = some (.int .i64 a0_1) ∧ w'.cell? ⟨gb280, 2, none⟩ = some (.slice A0_2 l0_2.length c0_2) ∧ w'.cell? ⟨gb280, 3, none⟩ = some (.int .i64 a0_3)) (ds := []) #[false, false, false, false, false, false, false, false, false] (by kernel_rfl) rfl rfl ⟨(blk_cell BK280.out 0).trans rfl, (blk_cell BK280.out 1).trans rfl, (blk_cell BK280.out 2).trans rfl, (blk_cell BK280.out 3).trans rfl⟩ (fun hHeld => ?_); refine with_tabW entries_Last.tab3 entries_Last.bits3 (fun HT_ HW_ => ?_)
    generalize w11.drew = w12 at BK280 BK281 HB hHeld ⊢
    refine stepT4 HT_ HW_ 0 (some 10) hHeld ?_
    refine stepT4 HT_ HW_ 1 (some 11) hHeld ?_
    refine one_ (i := 2) (N := some 12) #[true, true, true, false, false, false, false, false, false] rfl rfl (one_of HT_.out (by kernel_rfl)) (by decide) (fun K hK => ?_)
    refine goes_ Try.func44 (by kernel_rfl) rfl #[.agg #[.int .i64 a0_0, .int .i64 a0_1, .slice A0_2 l0_2.length c0_2, .int .i64 a0_3]] (by rfl) rfl rfl (by (try simp only [List.map_toArray, List.map_cons, List.map_nil]); first | done | rfl | (simp only [List.length_drop, List.length_take]; rfl)) ?_
    with_reducible refine (entries_end.calls a0_0 a0_1 _ _ l0_2 a0_3 t283 _ ?side1 ?side2 A4.out).mono ?_
    (case side1 => repeat (first | exact (Kd.C_below HR0_2.out HB.out) | (with_reducible refine Kd.C_alloc ?_ _) | (with_reducible refine Kd.C_drewN ?_ _) | (with_reducible refine Kd.C_drew ?_)))
    (case side2 => exact HC0_2.out)
    rintro e w13 ⟨rfl, hb⟩
    refine ⟨_, rfl, ?_⟩
    have n0_ := Aside0.mk (blk_below (g := gb280) (o := .cells #[.int .i64 a0_0, .int .i64 a0_1, .slice A0_2 l0_2.length c0_2, .int .i64 a0_3] 26 (0, 0)) (by (with_reducible repeat (first | refine blk_drewN ?_ _ | refine blk_drew ?_ | refine blk_alloc ?_ _)); exact BK280.out) hb)
    have n1_ := Aside0.mk (blk_below (g := gb281) (o := .cells #[.int .i64 0, .int .i64 0] 23 (0, 0)) (by (with_reducible repeat (first | refine blk_drewN ?_ _ | refine blk_drew ?_ | refine blk_alloc ?_ _)); exact BK281.out) hb)
    have n2_ := Aside0.mk (below_step (by repeat (first | (with_reducible first | exact HB.out | apply below_alloc | apply pw_below_drewN | apply below_drew1 | refine below_set ?_ GE280.out | refine below_set ?_ GE281.out) | exact HB.out)) hb)
    clear BK280
    clear BK281
    clear HB
    have BK280 := n0_
    have BK281 := n1_
    have HB := n2_
    clear n0_ n1_ n2_
    (try clear hb)
    (try clear hb2)
    (try clear hk)
    (try clear hi)
    refine hK.out _ _ ⟨(blk_cell BK280.out 0).trans rfl, (blk_cell BK280.out 1).trans rfl, (blk_cell BK280.out 2).trans rfl, (blk_cell BK280.out 3).trans rfl⟩ (fun hHeld => ?_)
    clear hK K
    refine norm_ (a' := ?_) ?_ ?_
    rotate_left
    · show Act.put _ (some 12) _ = _
      simp only [Act.put, List.setIfInBounds_toArray, List.set_cons_zero, List.set_cons_succ, i64_w, i32_w]
      rfl
    refine one_ (i := 3) (N := some 13) #[true, true, true, true, false, false, false, false, false] rfl rfl (one_of HT_.out (by kernel_rfl)) (by decide) (fun K hK => ?_)
    refine goes_ Try.func27 (by kernel_rfl) rfl #[.agg #[.int .i64 a0_0, .int .i64 a0_1, .slice A0_2 l0_2.length c0_2, .int .i64 a0_3], .int .i64 t283] (by rfl) rfl rfl (by (try simp only [List.map_toArray, List.map_cons, List.map_nil]); first | done | rfl | (simp only [List.length_drop, List.length_take]; rfl)) ?_
    with_reducible refine (entries_TermAt.calls k a0_0 a0_1 _ _ l0_2 a0_3 t283 t284 t285 _ ?side1 ?side2 A5.out).mono ?_
    (case side1 => repeat (first | exact (Kd.C_below HR0_2.out HB.out) | (with_reducible refine Kd.C_alloc ?_ _) | (with_reducible refine Kd.C_drewN ?_ _) | (with_reducible refine Kd.C_drew ?_)))
    (case side2 => exact HC0_2.out)
    rintro e w14 ⟨rfl, hb⟩
    refine ⟨_, rfl, ?_⟩
    have n0_ := Aside0.mk (blk_below (g := gb280) (o := .cells #[.int .i64 a0_0, .int .i64 a0_1, .slice A0_2 l0_2.length c0_2, .int .i64 a0_3] 26 (0, 0)) (by (with_reducible repeat (first | refine blk_drewN ?_ _ | refine blk_drew ?_ | refine blk_alloc ?_ _)); exact BK280.out) hb)
    have n1_ := Aside0.mk (blk_below (g := gb281) (o := .cells #[.int .i64 0, .int .i64 0] 23 (0, 0)) (by (with_reducible repeat (first | refine blk_drewN ?_ _ | refine blk_drew ?_ | refine blk_alloc ?_ _)); exact BK281.out) hb)
    have n2_ := Aside0.mk (below_step (by repeat (first | (with_reducible first | exact HB.out | apply below_alloc | apply pw_below_drewN | apply below_drew1 | refine below_set ?_ GE280.out | refine below_set ?_ GE281.out) | exact HB.out)) hb)
    clear BK280
    clear BK281
    clear HB
    have BK280 := n0_
    have BK281 := n1_
    have HB := n2_
    clear n0_ n1_ n2_
    (try clear hb)
    (try clear hb2)
    (try clear hk)
    (try clear hi)
    refine hK.out _ _ ⟨(blk_cell BK280.out 0).trans rfl, (blk_cell BK280.out 1).trans rfl, (blk_cell BK280.out 2).trans rfl, (blk_cell BK280.out 3).trans rfl⟩ (fun hHeld => ?_)
    clear hK K
    refine norm_ (a' := ?_) ?_ ?_
    rotate_left
    · show Act.put _ (some 13) _ = _
      simp only [Act.put, List.setIfInBounds_toArray, List.set_cons_zero, List.set_cons_succ, i64_w, i32_w]
      rfl
    refine stepP HT_ 4 (some 9) ?_
    refine stepP HT_ 5 (some 14) ?_
    refine stepP HT_ 6 (some 15) ?_
    refine stepP HT_ 7 (some 3) ?_
    refine stepP HT_ 8 (some 4) ?_
    refine done_ (done_of HT_.out (by kernel_rfl)) ?_
    have hcz15_0 : w14.cell? ⟨gb280, 0, none⟩ = some (.int .i64 a0_0) := (blk_cell BK280.out 0).trans rfl
    have hcz15_1 : w14.cell? ⟨gb280, 1, none⟩ = some (.int .i64 a0_1) := (blk_cell BK280.out 1).trans rfl
    have hcz15_2 : w14.cell? ⟨gb280, 2, none⟩ = some (.slice A0_2 l0_2.length c0_2) := (blk_cell BK280.out 2).trans rfl
    have hcz15_3 : w14.cell? ⟨gb280, 3, none⟩ = some (.int .i64 a0_3) := (blk_cell BK280.out 3).trans rfl
    have hfz15_0 := blk_frozen BK280.out 0
    have hfz15_1 := blk_frozen BK280.out 1
    have hfz15_2 := blk_frozen BK280.out 2
    have hfz15_3 := blk_frozen BK280.out 3
    try go_wp2_with (first | ((with_reducible refine gate_callee (f := 44) rfl ?_); refine goesL_ (some 17) rfl rfl Try.func44 (by kernel_rfl) rfl #[.agg #[.int .i64 a0_0, .int .i64 a0_1, .slice A0_2 l0_2.length c0_2, .int .i64 a0_3]] rfl (by (try simp only [List.map_toArray, List.map_cons, List.map_nil]); first | done | rfl | (simp only [List.length_drop, List.length_take]; rfl)) ?_; (with_reducible refine (entries_end.calls a0_0 a0_1 _ _ l0_2 a0_3 t286 _ ?side1 ?side2 A6.out).mono ?_); (case side1 => repeat (first | exact (Kd.C_below HR0_2.out HB.out) | (with_reducible refine Kd.C_alloc ?_ _) | (with_reducible refine Kd.C_drewN ?_ _) | (with_reducible refine Kd.C_drew ?_))); (case side2 => exact HC0_2.out); rintro e w16 ⟨rfl, hb⟩; refine ⟨_, rfl, ?_⟩; have n0_ := Aside0.mk (blk_below (g := gb280) (o := .cells #[.int .i64 a0_0, .int .i64 a0_1, .slice A0_2 l0_2.length c0_2, .int .i64 a0_3] 26 (0, 0)) (by (with_reducible repeat (first | refine blk_drewN ?_ _ | refine blk_drew ?_ | refine blk_alloc ?_ _)); exact BK280.out) hb); have n1_ := Aside0.mk (blk_below (g := gb281) (o := .cells #[.int .i64 0, .int .i64 0] 23 (0, 0)) (by (with_reducible repeat (first | refine blk_drewN ?_ _ | refine blk_drew ?_ | refine blk_alloc ?_ _)); exact BK281.out) hb); have n2_ := Aside0.mk (below_step (by repeat (first | (with_reducible first | exact HB.out | apply below_alloc | apply pw_below_drewN | apply below_drew1 | refine below_set ?_ GE280.out | refine below_set ?_ GE281.out) | exact HB.out)) hb); clear BK280; clear BK281; clear HB; have BK280 := n0_; have BK281 := n1_; have HB := n2_; clear n0_ n1_ n2_; (try clear hb); (try clear hb2); (try clear hk); (try clear hi); have hcz17_0 : w16.cell? ⟨gb281, 0, none⟩ = some (.int .i64 0) := (blk_cell BK281.out 0).trans rfl; have hcz17_1 : w16.cell? ⟨gb281, 1, none⟩ = some (.int .i64 0) := (blk_cell BK281.out 1).trans rfl; have hfz17_0 := blk_frozen BK281.out 0; have hfz17_1 := blk_frozen BK281.out 1))
    refine bodyPost_ret (results_cell_row rfl _ _ gb281 23 #[.int .i64 t286, .int .i64 t284] (0, 0) _ rfl (by (with_reducible repeat (first | refine blk_drewN ?_ _ | refine blk_drew ?_ | refine blk_alloc ?_ _)); refine blk_put (cs := #[.int .i64 t286, .int .i64 0]) ?_ 1 _ rfl; (with_reducible repeat (first | refine blk_drewN ?_ _ | refine blk_drew ?_ | refine blk_alloc ?_ _)); refine blk_put (cs := #[.int .i64 0, .int .i64 0]) ?_ 0 _ rfl; (with_reducible repeat (first | refine blk_drewN ?_ _ | refine blk_drew ?_ | refine blk_alloc ?_ _)); exact BK281.out) Try.underlying23 rfl (by kernel_rfl)) rfl ?_
    exact ⟨by first | rfl | (simp [errW_none, errW_some] <;> rfl) | (simp [*, errW_none, errW_some] <;> rfl), by repeat (first | (with_reducible first | exact HB.out | apply below_alloc | apply pw_below_drewN | apply below_drew1 | refine below_set ?_ GE280.out | refine below_set ?_ GE281.out) | exact HB.out)⟩
  · rw [if_neg c3] at H
    have c3b0 : (t282 == 0) = false := beq_eq_false_iff_ne.mpr c3
    have c3b1 : (t282 != 0) = true := bne_iff_ne.mpr c3
    simp only [Option.some.injEq, Prod.mk.injEq] at H
    obtain ⟨rfl, rfl⟩ := H
    go_enter Try.func32, Try.ntmps32
    go_wp2_with (first | ((with_reducible refine gate_dst (N := 1) rfl ?_); refine box_event ?hg (N := 1) ?hd (cs := #[.int .i64 a0_0, .int .i64 a0_1, .slice A0_2 l0_2.length c0_2, .int .i64 a0_3]) (t := 26) ?hr ?_; (case hd => rfl); (case hg => rfl); (case hr => first | (go_simp; done) | (go_simp; rfl)); intro gb280 hg w18 hbox hb; have n0_ := Aside0.mk (below_step (by repeat (first | (with_reducible first | exact HB.out | apply below_alloc | apply pw_below_drewN | apply below_drew1) | exact HB.out)) hb); have n1_ := Aside0.mk (hbox); have n2_ := Aside0.mk ((by rw [hg]; exact (below_size (by repeat (first | (with_reducible first | exact HB.out | apply below_alloc | apply pw_below_drewN | apply below_drew1) | exact HB.out))) : w.heap.size ≤ gb280)); have n3_ := Aside0.mk ((by rw [hg]; exact (below_size (by repeat (first | (with_reducible first | exact HB.out | apply below_alloc | apply pw_below_drewN | apply below_drew1) | exact HB.out))) : w.heap.size ≤ gb280)); clear HB; have HB := n0_; have BK280 := n1_; have GW280 := n2_; have GE280 := n3_; clear n0_ n1_ n2_ n3_; clear hb hbox hg) | ((with_reducible refine gate_dst (N := 2) rfl ?_); refine box_event ?hg (N := 2) ?hd (cs := #[.int .i64 0, .int .i64 0]) (t := 23) ?hr ?_; (case hd => rfl); (case hg => rfl); (case hr => first | (go_simp; done) | (go_simp; rfl)); intro gb281 hg w19 hbox hb; have n0_ := Aside0.mk (blk_below (g := gb280) (o := .cells #[.int .i64 a0_0, .int .i64 a0_1, .slice A0_2 l0_2.length c0_2, .int .i64 a0_3] 26 (0, 0)) (by (with_reducible repeat (first | refine blk_drewN ?_ _ | refine blk_drew ?_ | refine blk_alloc ?_ _)); exact BK280.out) hb); have n1_ := Aside0.mk (below_step (by repeat (first | (with_reducible first | exact HB.out | apply below_alloc | apply pw_below_drewN | apply below_drew1 | refine below_set ?_ GE280.out) | exact HB.out)) hb); have n2_ := Aside0.mk (hbox); have n3_ := Aside0.mk ((by rw [hg]; exact (below_size (by repeat (first | (with_reducible first | exact HB.out | apply below_alloc | apply pw_below_drewN | apply below_drew1 | refine below_set ?_ GE280.out) | exact HB.out))) : w.heap.size ≤ gb281)); have n4_ := Aside0.mk ((by rw [hg]; exact (below_size (by repeat (first | (with_reducible first | exact HB.out | apply below_alloc | apply pw_below_drewN | apply below_drew1 | refine below_set ?_ GE280.out) | exact HB.out))) : w.heap.size ≤ gb281)); have n5_ := Aside0.mk ((by rw [hg]; exact Nat.ne_of_lt (blk_lt (g := gb280) (o := .cells #[.int .i64 a0_0, .int .i64 a0_1, .slice A0_2 l0_2.length c0_2, .int .i64 a0_3] 26 (0, 0)) (by (with_reducible repeat (first | refine blk_drewN ?_ _ | refine blk_drew ?_ | refine blk_alloc ?_ _)); exact BK280.out)) : gb280 ≠ gb281)); have n6_ := Aside0.mk ((by rw [hg]; exact Nat.ne_of_gt (blk_lt (g := gb280) (o := .cells #[.int .i64 a0_0, .int .i64 a0_1, .slice A0_2 l0_2.length c0_2, .int .i64 a0_3] 26 (0, 0)) (by (with_reducible repeat (first | refine blk_drewN ?_ _ | refine blk_drew ?_ | refine blk_alloc ?_ _)); exact BK280.out)) : gb281 ≠ gb280)); clear BK280; clear HB; have BK280 := n0_; have HB := n1_; have BK281 := n2_; have GW281 := n3_; have GE281 := n4_; have NB280_281 := n5_; have NB281_280 := n6_; clear n0_ n1_ n2_ n3_ n4_ n5_ n6_; clear hb hbox hg; have hnb20 := NB280_281.out; have hnc20 := NB281_280.out; have hcz21_0 : w19.cell? ⟨gb280, 0, none⟩ = some (.int .i64 a0_0) := (blk_cell BK280.out 0).trans rfl; have hcz21_1 : w19.cell? ⟨gb280, 1, none⟩ = some (.int .i64 a0_1) := (blk_cell BK280.out 1).trans rfl; have hcz21_2 : w19.cell? ⟨gb280, 2, none⟩ = some (.slice A0_2 l0_2.length c0_2) := (blk_cell BK280.out 2).trans rfl; have hcz21_3 : w19.cell? ⟨gb280, 3, none⟩ = some (.int .i64 a0_3) := (blk_cell BK280.out 3).trans rfl; have hfz21_0 := blk_frozen BK280.out 0; have hfz21_1 := blk_frozen BK280.out 1; have hfz21_2 := blk_frozen BK280.out 2; have hfz21_3 := blk_frozen BK280.out 3) | ((with_reducible refine gate_callee (f := 30) rfl ?_); refine goesL_ (some 6) rfl rfl Try.func30 (by kernel_rfl) rfl #[.agg #[.int .i64 a0_0, .int .i64 a0_1, .slice A0_2 l0_2.length c0_2, .int .i64 a0_3]] rfl (by (try simp only [List.map_toArray, List.map_cons, List.map_nil]); first | done | rfl | (simp only [List.length_drop, List.length_take]; rfl)) ?_; (with_reducible refine (entries_Check.calls k a0_0 a0_1 _ _ l0_2 a0_3 t282 _ ?side1 ?side2 A2.out).mono ?_); (case side1 => repeat (first | exact (Kd.C_below HR0_2.out HB.out) | (with_reducible refine Kd.C_alloc ?_ _) | (with_reducible refine Kd.C_drewN ?_ _) | (with_reducible refine Kd.C_drew ?_))); (case side2 => exact HC0_2.out); rintro e w22 ⟨rfl, hb⟩; refine ⟨_, rfl, ?_⟩; have n0_ := Aside0.mk (blk_below (g := gb280) (o := .cells #[.int .i64 a0_0, .int .i64 a0_1, .slice A0_2 l0_2.length c0_2, .int .i64 a0_3] 26 (0, 0)) (by (with_reducible repeat (first | refine blk_drewN ?_ _ | refine blk_drew ?_ | refine blk_alloc ?_ _)); exact BK280.out) hb); have n1_ := Aside0.mk (blk_below (g := gb281) (o := .cells #[.int .i64 0, .int .i64 0] 23 (0, 0)) (by (with_reducible repeat (first | refine blk_drewN ?_ _ | refine blk_drew ?_ | refine blk_alloc ?_ _)); exact BK281.out) hb); have n2_ := Aside0.mk (below_step (by repeat (first | (with_reducible first | exact HB.out | apply below_alloc | apply pw_below_drewN | apply below_drew1 | refine below_set ?_ GE280.out | refine below_set ?_ GE281.out) | exact HB.out)) hb); clear BK280; clear BK281; clear HB; have BK280 := n0_; have BK281 := n1_; have HB := n2_; clear n0_ n1_ n2_; (try clear hb); (try clear hb2); (try clear hk); (try clear hi); have hcz23_0 : w22.cell? ⟨gb281, 0, none⟩ = some (.int .i64 0) := (blk_cell BK281.out 0).trans rfl; have hcz23_1 : w22.cell? ⟨gb281, 1, none⟩ = some (.int .i64 0) := (blk_cell BK281.out 1).trans rfl; have hfz23_0 := blk_frozen BK281.out 0; have hfz23_1 := blk_frozen BK281.out 1))
    refine bodyPost_ret (results_cell_row rfl _ _ gb281 23 #[.int .i64 0, .int .i64 0] (0, 0) _ rfl (by (with_reducible repeat (first | refine blk_drewN ?_ _ | refine blk_drew ?_ | refine blk_alloc ?_ _)); refine blk_put (cs := #[.int .i64 0, .int .i64 0]) ?_ 1 _ rfl; (with_reducible repeat (first | refine blk_drewN ?_ _ | refine blk_drew ?_ | refine blk_alloc ?_ _)); refine blk_put (cs := #[.int .i64 0, .int .i64 0]) ?_ 0 _ rfl; (with_reducible repeat (first | refine blk_drewN ?_ _ | refine blk_drew ?_ | refine blk_alloc ?_ _)); exact BK281.out) Try.underlying23 rfl (by kernel_rfl)) rfl ?_
    exact ⟨by first | rfl | (simp [errW_none, errW_some] <;> rfl) | (simp [*, errW_none, errW_some] <;> rfl), by repeat (first | (with_reducible first | exact HB.out | apply below_alloc | apply pw_below_drewN | apply below_drew1 | refine below_set ?_ GE280.out | refine below_set ?_ GE281.out) | exact HB.out)⟩

end Go.Proofs.Ytiebeiloooblpaa.E
end
section
-- written by myprint.py, a program of this session over the kit's print.py
namespace Go.Proofs.Ytiebeiloooblpaa.E
open Go.RowKit Go.Proofs.YtiebeiloooblpaaW.PrintWords Go.Proofs.YtiebeiloooblpaaW.PrintLast Go.Proofs.YtiebeiloooblpaaW.PrintMore
attribute [local go_sem] max2_int min2_int max_two min_two max_three min_three max_four min_four   -- for this text's walks alone
set_option linter.unusedVariables false
set_option linter.unusedSimpArgs false

attribute [local go_sem high] eqA23
/-! ### rialtolaw08_live: function 24 -/
def rialtolaw08_live.f (k : Nat)  : Option (Bool) := (some (([(⟨1, 1, (⟨#[]⟩ : ByteArray)⟩ : S33), (⟨1, 2, (⟨#[97]⟩ : ByteArray)⟩ : S33), (⟨2, 1, (⟨#[]⟩ : ByteArray)⟩ : S33)] : List (S33)) : List (S33))).bind fun y287 => ((entries_Accept.f k 0 0 y287 0 2 1 (([(⟨3, 1, (⟨#[]⟩ : ByteArray)⟩ : S33)] : List (S33))) 9).bind fun bt294 => ((entries_Advance.f k 0 0 y287 0 2 (([3, 3, 1] : List Int))).bind fun bt307 => (if bt294.2.2.2.2.2.2 = 0 then (if bt294.2.2.2.2.2.1 = true then (if bt294.2.2.2.2.1 = 3 then (if bt294.2.2.2.1 = 3 then (if (bt294.2.2.1.length : Int) = 3 then (if 2 < (bt294.2.2.1.length : Int) then (if ((rd_T33 bt294.2.2.1 2).f0) = 3 then (if bt307.2.2.2.2 = 0 then (if bt307.2.2.2.1 = 3 then ((entries_Last.f k 0 0 y287 0).bind fun bt316 => (some (bt316.1 == 3 && (bt316.2 == 2)))) else (some false)) else (some false)) else (some false)) else (none)) else (some false)) else (some false)) else (some false)) else (some false)) else (some false))))
theorem rialtolaw08_live.mono : ∀ k, LeO (rialtolaw08_live.f k ) (rialtolaw08_live.f (k + 1) ) := by
  intro  k
  unfold rialtolaw08_live.f
  repeat' first
      | (with_reducible exact entries_Accept.mono _ _ _ _ _ _ _ _ _)
      | (with_reducible exact entries_Advance.mono _ _ _ _ _ _ _)
      | (with_reducible exact entries_Last.mono _ _ _ _ _)
      | (with_reducible exact LeO.refl _)
      | (with_reducible exact LeO.none _)
      | (with_reducible refine LeO.ite ?_ ?_)
      | (with_reducible refine LeO.bind ?_ (fun _ => ?_))
      | exact entries_Accept.mono _ _ _ _ _ _ _ _ _
      | exact entries_Advance.mono _ _ _ _ _ _ _
      | exact entries_Last.mono _ _ _ _ _
      | exact LeO.none _
      | refine LeO.ite ?_ ?_
      | refine LeO.bind ?_ (fun _ => ?_)
set_option maxHeartbeats 8000000 in
set_option maxRecDepth 100000 in
theorem rialtolaw08_live.calls (k : Nat)  (r : Bool) (w : World) (h : rialtolaw08_live.f k  = some r) :
    Calls Try.prog 24 #[] w fun e w' => e = .returned (.bool r) ∧ Below w.heap.size w w' := by
  have hu33 := Try.underlying33
  have hu26 := Try.underlying26
  have hu23 := Try.underlying23
  have HB := Aside0.mk (Below.refl w.heap.size w)
  have H : ((some (([(⟨1, 1, (⟨#[]⟩ : ByteArray)⟩ : S33), (⟨1, 2, (⟨#[97]⟩ : ByteArray)⟩ : S33), (⟨2, 1, (⟨#[]⟩ : ByteArray)⟩ : S33)] : List (S33)) : List (S33))).bind fun y287 => ((entries_Accept.f k 0 0 y287 0 2 1 (([(⟨3, 1, (⟨#[]⟩ : ByteArray)⟩ : S33)] : List (S33))) 9).bind fun bt294 => ((entries_Advance.f k 0 0 y287 0 2 (([3, 3, 1] : List Int))).bind fun bt307 => (if bt294.2.2.2.2.2.2 = 0 then (if bt294.2.2.2.2.2.1 = true then (if bt294.2.2.2.2.1 = 3 then (if bt294.2.2.2.1 = 3 then (if (bt294.2.2.1.length : Int) = 3 then (if 2 < (bt294.2.2.1.length : Int) then (if ((rd_T33 bt294.2.2.1 2).f0) = 3 then (if bt307.2.2.2.2 = 0 then (if bt307.2.2.2.1 = 3 then ((entries_Last.f k 0 0 y287 0).bind fun bt316 => (some (bt316.1 == 3 && (bt316.2 == 2)))) else (some false)) else (some false)) else (some false)) else (none)) else (some false)) else (some false)) else (some false)) else (some false)) else (some false))))) = some r := h
  clear h
  obtain ⟨y287, hy287⟩ : ∃ y_ : List (S33), y_ = (([(⟨1, 1, (⟨#[]⟩ : ByteArray)⟩ : S33), (⟨1, 2, (⟨#[97]⟩ : ByteArray)⟩ : S33), (⟨2, 1, (⟨#[]⟩ : ByteArray)⟩ : S33)] : List (S33))) := ⟨_, rfl⟩
  replace H : ((entries_Accept.f k 0 0 y287 0 2 1 (([(⟨3, 1, (⟨#[]⟩ : ByteArray)⟩ : S33)] : List (S33))) 9).bind fun bt294 => ((entries_Advance.f k 0 0 y287 0 2 (([3, 3, 1] : List Int))).bind fun bt307 => (if bt294.2.2.2.2.2.2 = 0 then (if bt294.2.2.2.2.2.1 = true then (if bt294.2.2.2.2.1 = 3 then (if bt294.2.2.2.1 = 3 then (if (bt294.2.2.1.length : Int) = 3 then (if 2 < (bt294.2.2.1.length : Int) then (if ((rd_T33 bt294.2.2.1 2).f0) = 3 then (if bt307.2.2.2.2 = 0 then (if bt307.2.2.2.1 = 3 then ((entries_Last.f k 0 0 y287 0).bind fun bt316 => (some (bt316.1 == 3 && (bt316.2 == 2)))) else (some false)) else (some false)) else (some false)) else (none)) else (some false)) else (some false)) else (some false)) else (some false)) else (some false)))) = some r := by first | (rw [hy287]; with_reducible exact H) | (have H2_ := (Option.bind_some _ _).symm.trans H; rw [hy287]; with_reducible exact H2_) | (have H2_ := (Option.bind_some _ _).symm.trans H; with_reducible exact H2_) | with_reducible exact H | (rw [hy287]; exact H) | exact H
  have Ny287 := Aside0.mk hy287
  clear hy287
  obtain ⟨y291, hy291⟩ : ∃ y_ : List (S33), y_ = (([(⟨3, 1, (⟨#[]⟩ : ByteArray)⟩ : S33)] : List (S33))) := ⟨_, rfl⟩
  replace H : ((entries_Accept.f k 0 0 y287 0 2 1 y291 9).bind fun bt294 => ((entries_Advance.f k 0 0 y287 0 2 (([3, 3, 1] : List Int))).bind fun bt307 => (if bt294.2.2.2.2.2.2 = 0 then (if bt294.2.2.2.2.2.1 = true then (if bt294.2.2.2.2.1 = 3 then (if bt294.2.2.2.1 = 3 then (if (bt294.2.2.1.length : Int) = 3 then (if 2 < (bt294.2.2.1.length : Int) then (if ((rd_T33 bt294.2.2.1 2).f0) = 3 then (if bt307.2.2.2.2 = 0 then (if bt307.2.2.2.1 = 3 then ((entries_Last.f k 0 0 y287 0).bind fun bt316 => (some (bt316.1 == 3 && (bt316.2 == 2)))) else (some false)) else (some false)) else (some false)) else (none)) else (some false)) else (some false)) else (some false)) else (some false)) else (some false)))) = some r := by first | (rw [hy291]; with_reducible exact H) | (have H2_ := (Option.bind_some _ _).symm.trans H; rw [hy291]; with_reducible exact H2_) | (have H2_ := (Option.bind_some _ _).symm.trans H; with_reducible exact H2_) | with_reducible exact H | (rw [hy291]; exact H) | exact H
  have Ny291 := Aside0.mk hy291
  clear hy291
  replace H := Option.bind_eq_some_iff.mp H
  obtain ⟨⟨t294, t295, t296, t299, t300, t301, t302⟩, A10, H⟩ := H
  replace H : ((entries_Advance.f k 0 0 y287 0 2 (([3, 3, 1] : List Int))).bind fun bt307 => (if t302 = 0 then (if t301 = true then (if t300 = 3 then (if t299 = 3 then (if (t296.length : Int) = 3 then (if 2 < (t296.length : Int) then (if ((rd_T33 t296 2).f0) = 3 then (if bt307.2.2.2.2 = 0 then (if bt307.2.2.2.1 = 3 then ((entries_Last.f k 0 0 y287 0).bind fun bt316 => (some (bt316.1 == 3 && (bt316.2 == 2)))) else (some false)) else (some false)) else (some false)) else (none)) else (some false)) else (some false)) else (some false)) else (some false)) else (some false))) = some r := H
  have A1 := Aside0.mk A10
  clear A10
  obtain ⟨y304, hy304⟩ : ∃ y_ : List Int, y_ = (([3, 3, 1] : List Int)) := ⟨_, rfl⟩
  replace H : ((entries_Advance.f k 0 0 y287 0 2 y304).bind fun bt307 => (if t302 = 0 then (if t301 = true then (if t300 = 3 then (if t299 = 3 then (if (t296.length : Int) = 3 then (if 2 < (t296.length : Int) then (if ((rd_T33 t296 2).f0) = 3 then (if bt307.2.2.2.2 = 0 then (if bt307.2.2.2.1 = 3 then ((entries_Last.f k 0 0 y287 0).bind fun bt316 => (some (bt316.1 == 3 && (bt316.2 == 2)))) else (some false)) else (some false)) else (some false)) else (none)) else (some false)) else (some false)) else (some false)) else (some false)) else (some false))) = some r := by first | (rw [hy304]; with_reducible exact H) | (have H2_ := (Option.bind_some _ _).symm.trans H; rw [hy304]; with_reducible exact H2_) | (have H2_ := (Option.bind_some _ _).symm.trans H; with_reducible exact H2_) | with_reducible exact H | (rw [hy304]; exact H) | exact H
  have Ny304 := Aside0.mk hy304
  clear hy304
  replace H := Option.bind_eq_some_iff.mp H
  obtain ⟨⟨t307, t308, t309, t312, t313⟩, A20, H⟩ := H
  replace H : (if t302 = 0 then (if t301 = true then (if t300 = 3 then (if t299 = 3 then (if (t296.length : Int) = 3 then (if 2 < (t296.length : Int) then (if ((rd_T33 t296 2).f0) = 3 then (if t313 = 0 then (if t312 = 3 then ((entries_Last.f k 0 0 y287 0).bind fun bt316 => (some (bt316.1 == 3 && (bt316.2 == 2)))) else (some false)) else (some false)) else (some false)) else (none)) else (some false)) else (some false)) else (some false)) else (some false)) else (some false)) = some r := H
  have A2 := Aside0.mk A20
  clear A20
  by_cases c3 : t302 = 0
  focus
    rw [if_pos c3] at H
    have c3b0 : (t302 == 0) = true := beq_iff_eq.mpr c3
    have c3b1 : (t302 != 0) = false := bne_eq_false_iff_eq.mpr c3
    clear c3
    by_cases c4 : t301 = true
    focus
      subst c4
      have H1 : (if t300 = 3 then (if t299 = 3 then (if (t296.length : Int) = 3 then (if 2 < (t296.length : Int) then (if ((rd_T33 t296 2).f0) = 3 then (if t313 = 0 then (if t312 = 3 then ((entries_Last.f k 0 0 y287 0).bind fun bt316 => (some (bt316.1 == 3 && (bt316.2 == 2)))) else (some false)) else (some false)) else (some false)) else (none)) else (some false)) else (some false)) else (some false)) = some r := by rw [if_pos rfl] at H; exact H
      clear H
      have H := H1
      clear H1
      by_cases c5 : t300 = 3
      focus
        rw [if_pos c5] at H
        have c5b0 : (t300 == 3) = true := beq_iff_eq.mpr c5
        have c5b1 : (t300 != 3) = false := bne_eq_false_iff_eq.mpr c5
        clear c5
        by_cases c6 : t299 = 3
        focus
          rw [if_pos c6] at H
          have c6b0 : (t299 == 3) = true := beq_iff_eq.mpr c6
          have c6b1 : (t299 != 3) = false := bne_eq_false_iff_eq.mpr c6
          clear c6
          by_cases c7 : (t296.length : Int) = 3
          focus
            rw [if_pos c7] at H
            have c7b0 : ((t296.length : Int) == 3) = true := beq_iff_eq.mpr c7
            have c7b1 : ((t296.length : Int) != 3) = false := bne_eq_false_iff_eq.mpr c7
            clear c7
            by_cases c8 : 2 < (t296.length : Int)
            focus
              rw [if_pos c8] at H
              have c8b0 : decide (2 < (t296.length : Int)) = true := decide_eq_true c8
              have c8b1 : decide (2 < t296.length) = true := decide_eq_true (by omega)
              clear c8
              by_cases c9 : ((rd_T33 t296 2).f0) = 3
              focus
                rw [if_pos c9] at H
                have c9b0 : (((rd_T33 t296 2).f0) == 3) = true := beq_iff_eq.mpr c9
                have c9b1 : (((rd_T33 t296 2).f0) != 3) = false := bne_eq_false_iff_eq.mpr c9
                clear c9
                by_cases c10 : t313 = 0
                focus
                  rw [if_pos c10] at H
                  have c10b0 : (t313 == 0) = true := beq_iff_eq.mpr c10
                  have c10b1 : (t313 != 0) = false := bne_eq_false_iff_eq.mpr c10
                  clear c10
                  by_cases c11 : t312 = 3
                  focus
                    rw [if_pos c11] at H
                    have c11b0 : (t312 == 3) = true := beq_iff_eq.mpr c11
                    have c11b1 : (t312 != 3) = false := bne_eq_false_iff_eq.mpr c11
                    clear c11
                    replace H := Option.bind_eq_some_iff.mp H
                    obtain ⟨⟨t316, t317⟩, A120, H⟩ := H
                    replace H : (some (t316 == 3 && (t317 == 2))) = some r := H
                    have A12 := Aside0.mk A120
                    clear A120
                    obtain rfl := Option.some.inj H
                  rotate_left 1
                  focus
                    rw [if_neg c11] at H
                    have c11b0 : (t312 == 3) = false := beq_eq_false_iff_ne.mpr c11
                    have c11b1 : (t312 != 3) = true := bne_iff_ne.mpr c11
                    obtain rfl := Option.some.inj H
                  rotate_left 1
                rotate_left 2
                focus
                  rw [if_neg c10] at H
                  have c10b0 : (t313 == 0) = false := beq_eq_false_iff_ne.mpr c10
                  have c10b1 : (t313 != 0) = true := bne_iff_ne.mpr c10
                  obtain rfl := Option.some.inj H
                rotate_left 1
              rotate_left 3
              focus
                rw [if_neg c9] at H
                have c9b0 : (((rd_T33 t296 2).f0) == 3) = false := beq_eq_false_iff_ne.mpr c9
                have c9b1 : (((rd_T33 t296 2).f0) != 3) = true := bne_iff_ne.mpr c9
                obtain rfl := Option.some.inj H
              rotate_left 1
            rotate_left 4
            focus
              rw [if_neg c8] at H
            rotate_left 1
          rotate_left 5
          focus
            rw [if_neg c7] at H
            have c7b0 : ((t296.length : Int) == 3) = false := beq_eq_false_iff_ne.mpr c7
            have c7b1 : ((t296.length : Int) != 3) = true := bne_iff_ne.mpr c7
            obtain rfl := Option.some.inj H
          rotate_left 1
        rotate_left 6
        focus
          rw [if_neg c6] at H
          have c6b0 : (t299 == 3) = false := beq_eq_false_iff_ne.mpr c6
          have c6b1 : (t299 != 3) = true := bne_iff_ne.mpr c6
          obtain rfl := Option.some.inj H
        rotate_left 1
      rotate_left 7
      focus
        rw [if_neg c5] at H
        have c5b0 : (t300 == 3) = false := beq_eq_false_iff_ne.mpr c5
        have c5b1 : (t300 != 3) = true := bne_iff_ne.mpr c5
        obtain rfl := Option.some.inj H
      rotate_left 1
    rotate_left 8
    focus
      replace c4 := Bool.eq_false_iff.mpr c4
      subst c4
      have H1 : (some false) = some r := by rw [if_neg (show ¬ (false = true) by decide)] at H; exact H
      clear H
      have H := H1
      clear H1
      obtain rfl := Option.some.inj H
    rotate_left 1
  rotate_left 9
  focus
    rw [if_neg c3] at H
    have c3b0 : (t302 == 0) = false := beq_eq_false_iff_ne.mpr c3
    have c3b1 : (t302 != 0) = true := bne_iff_ne.mpr c3
    obtain rfl := Option.some.inj H
  rotate_left 1
  iterate 4
    focus
      go_enter Try.func24, Try.ntmps24
      go_wp2_with (first | ((with_reducible refine gate_dst (N := 11) rfl ?_); (try (refine gate_guard (by rfl) ?_; dsimp only)); refine Kd.R_lit k33 _ 33 ?hg (N := 11) ?hd (xs := ([(⟨1, 1, (⟨#[]⟩ : ByteArray)⟩ : S33), (⟨1, 2, (⟨#[97]⟩ : ByteArray)⟩ : S33), (⟨2, 1, (⟨#[]⟩ : ByteArray)⟩ : S33)] : List (S33))) (inner := [.int .i64 1, .int .i64 1, .string (⟨#[]⟩ : ByteArray), .int .i64 1, .int .i64 2, .string (⟨#[97]⟩ : ByteArray), .int .i64 2, .int .i64 1, .string (⟨#[]⟩ : ByteArray)]) (ok := fun _ => True) (okp := fun _ => True) ?hr ?hp (fun _ hk => hk) trivial (Below.refl _ _) (Nat.le_refl _) (by simp) ?_; (case hd => rfl); (case hg => rfl); (case hr => first | (go_simp; done) | (go_simp; rfl)); (case hp => exact (Reps.c3 (show Kd.M k33 _ _ _ (⟨1, 1, (⟨#[]⟩ : ByteArray)⟩ : S33) [.int .i64 1, .int .i64 1, .string (⟨#[]⟩ : ByteArray)] from (k33_mkM _ _ _ (⟨1, 1, (⟨#[]⟩ : ByteArray)⟩ : S33) )) (Reps.c3 (show Kd.M k33 _ _ _ (⟨1, 2, (⟨#[97]⟩ : ByteArray)⟩ : S33) [.int .i64 1, .int .i64 2, .string (⟨#[97]⟩ : ByteArray)] from (k33_mkM _ _ _ (⟨1, 2, (⟨#[97]⟩ : ByteArray)⟩ : S33) )) (Reps.c3 (show Kd.M k33 _ _ _ (⟨2, 1, (⟨#[]⟩ : ByteArray)⟩ : S33) [.int .i64 2, .int .i64 1, .string (⟨#[]⟩ : ByteArray)] from (k33_mkM _ _ _ (⟨2, 1, (⟨#[]⟩ : ByteArray)⟩ : S33) )) (Reps.none _ _))))); intro v288 wx11i0 ho14 hb hg_ hnew_; clear hg_ hnew_; (first | rw [← Ny287.out] at ho14 | (simp only [Int.reduceToNat] at ho14; rw [← Ny287.out] at ho14)); have n0_ := Aside0.mk (Kd.R_lower ho14 (below_size (by repeat (first | (with_reducible first | exact HB.out | apply below_alloc | apply pw_below_drewN | apply below_drew1) | exact HB.out)))); have n1_ := Aside0.mk (below_step (by repeat (first | (with_reducible first | exact HB.out | apply below_alloc | apply pw_below_drewN | apply below_drew1) | exact HB.out)) hb); clear HB; have HO289 := n0_; have HB := n1_; clear n0_ n1_; clear hb ho14; obtain ⟨Aox11i0, cox11i0, eox11i0⟩ := Kd.R_slice HO289.out; subst eox11i0) | ((with_reducible refine gate_dst (N := 11) rfl ?_); (try (refine gate_guard (by rfl) ?_; dsimp only)); refine Kd.R_lit k33 _ 33 ?hg (N := 11) ?hd (xs := ([(⟨1, 1, (⟨#[]⟩ : ByteArray)⟩ : S33), (⟨1, 2, (⟨#[97]⟩ : ByteArray)⟩ : S33), (⟨2, 1, (⟨#[]⟩ : ByteArray)⟩ : S33)] : List (S33))) (inner := [.int .i64 1, .int .i64 1, .string (⟨#[]⟩ : ByteArray), .int .i64 1, .int .i64 2, .string (⟨#[97]⟩ : ByteArray), .int .i64 2, .int .i64 1, .string (⟨#[]⟩ : ByteArray)]) (ok := fun _ => True) (okp := fun _ => True) ?hr ?hp (fun _ hk => hk) trivial (Below.refl _ _) (Nat.le_refl _) (by simp) ?_; (case hd => rfl); (case hg => rfl); (case hr => first | (go_simp; done) | (go_simp; rfl)); (case hp => exact (Reps.c3 (show Kd.M k33 _ _ _ (⟨1, 1, (⟨#[]⟩ : ByteArray)⟩ : S33) [.int .i64 1, .int .i64 1, .string (⟨#[]⟩ : ByteArray)] from (k33_mkM _ _ _ (⟨1, 1, (⟨#[]⟩ : ByteArray)⟩ : S33) )) (Reps.c3 (show Kd.M k33 _ _ _ (⟨1, 2, (⟨#[97]⟩ : ByteArray)⟩ : S33) [.int .i64 1, .int .i64 2, .string (⟨#[97]⟩ : ByteArray)] from (k33_mkM _ _ _ (⟨1, 2, (⟨#[97]⟩ : ByteArray)⟩ : S33) )) (Reps.c3 (show Kd.M k33 _ _ _ (⟨2, 1, (⟨#[]⟩ : ByteArray)⟩ : S33) [.int .i64 2, .int .i64 1, .string (⟨#[]⟩ : ByteArray)] from (k33_mkM _ _ _ (⟨2, 1, (⟨#[]⟩ : ByteArray)⟩ : S33) )) (Reps.none _ _))))); intro v288 wx11i0 ho40 hb hg_ hnew_; clear hg_ hnew_; (first | rw [← Ny287.out] at ho40 | (simp only [Int.reduceToNat] at ho40; rw [← Ny287.out] at ho40)); have n0_ := Aside0.mk (Kd.R_lower ho40 (below_size (by repeat (first | (with_reducible first | exact HB.out | apply below_alloc | apply pw_below_drewN | apply below_drew1) | exact HB.out)))); have n1_ := Aside0.mk (below_step (by repeat (first | (with_reducible first | exact HB.out | apply below_alloc | apply pw_below_drewN | apply below_drew1) | exact HB.out)) hb); clear HB; have HO289 := n0_; have HB := n1_; clear n0_ n1_; clear hb ho40; obtain ⟨Aox11i0, cox11i0, eox11i0⟩ := Kd.R_slice HO289.out; subst eox11i0) | ((with_reducible refine gate_dst (N := 11) rfl ?_); (try (refine gate_guard (by rfl) ?_; dsimp only)); refine Kd.R_lit k33 _ 33 ?hg (N := 11) ?hd (xs := ([(⟨1, 1, (⟨#[]⟩ : ByteArray)⟩ : S33), (⟨1, 2, (⟨#[97]⟩ : ByteArray)⟩ : S33), (⟨2, 1, (⟨#[]⟩ : ByteArray)⟩ : S33)] : List (S33))) (inner := [.int .i64 1, .int .i64 1, .string (⟨#[]⟩ : ByteArray), .int .i64 1, .int .i64 2, .string (⟨#[97]⟩ : ByteArray), .int .i64 2, .int .i64 1, .string (⟨#[]⟩ : ByteArray)]) (ok := fun _ => True) (okp := fun _ => True) ?hr ?hp (fun _ hk => hk) trivial (Below.refl _ _) (Nat.le_refl _) (by simp) ?_; (case hd => rfl); (case hg => rfl); (case hr => first | (go_simp; done) | (go_simp; rfl)); (case hp => exact (Reps.c3 (show Kd.M k33 _ _ _ (⟨1, 1, (⟨#[]⟩ : ByteArray)⟩ : S33) [.int .i64 1, .int .i64 1, .string (⟨#[]⟩ : ByteArray)] from (k33_mkM _ _ _ (⟨1, 1, (⟨#[]⟩ : ByteArray)⟩ : S33) )) (Reps.c3 (show Kd.M k33 _ _ _ (⟨1, 2, (⟨#[97]⟩ : ByteArray)⟩ : S33) [.int .i64 1, .int .i64 2, .string (⟨#[97]⟩ : ByteArray)] from (k33_mkM _ _ _ (⟨1, 2, (⟨#[97]⟩ : ByteArray)⟩ : S33) )) (Reps.c3 (show Kd.M k33 _ _ _ (⟨2, 1, (⟨#[]⟩ : ByteArray)⟩ : S33) [.int .i64 2, .int .i64 1, .string (⟨#[]⟩ : ByteArray)] from (k33_mkM _ _ _ (⟨2, 1, (⟨#[]⟩ : ByteArray)⟩ : S33) )) (Reps.none _ _))))); intro v288 wx11i0 ho64 hb hg_ hnew_; clear hg_ hnew_; (first | rw [← Ny287.out] at ho64 | (simp only [Int.reduceToNat] at ho64; rw [← Ny287.out] at ho64)); have n0_ := Aside0.mk (Kd.R_lower ho64 (below_size (by repeat (first | (with_reducible first | exact HB.out | apply below_alloc | apply pw_below_drewN | apply below_drew1) | exact HB.out)))); have n1_ := Aside0.mk (below_step (by repeat (first | (with_reducible first | exact HB.out | apply below_alloc | apply pw_below_drewN | apply below_drew1) | exact HB.out)) hb); clear HB; have HO289 := n0_; have HB := n1_; clear n0_ n1_; clear hb ho64; obtain ⟨Aox11i0, cox11i0, eox11i0⟩ := Kd.R_slice HO289.out; subst eox11i0) | ((with_reducible refine gate_dst (N := 11) rfl ?_); (try (refine gate_guard (by rfl) ?_; dsimp only)); refine Kd.R_lit k33 _ 33 ?hg (N := 11) ?hd (xs := ([(⟨1, 1, (⟨#[]⟩ : ByteArray)⟩ : S33), (⟨1, 2, (⟨#[97]⟩ : ByteArray)⟩ : S33), (⟨2, 1, (⟨#[]⟩ : ByteArray)⟩ : S33)] : List (S33))) (inner := [.int .i64 1, .int .i64 1, .string (⟨#[]⟩ : ByteArray), .int .i64 1, .int .i64 2, .string (⟨#[97]⟩ : ByteArray), .int .i64 2, .int .i64 1, .string (⟨#[]⟩ : ByteArray)]) (ok := fun _ => True) (okp := fun _ => True) ?hr ?hp (fun _ hk => hk) trivial (Below.refl _ _) (Nat.le_refl _) (by simp) ?_; (case hd => rfl); (case hg => rfl); (case hr => first | (go_simp; done) | (go_simp; rfl)); (case hp => exact (Reps.c3 (show Kd.M k33 _ _ _ (⟨1, 1, (⟨#[]⟩ : ByteArray)⟩ : S33) [.int .i64 1, .int .i64 1, .string (⟨#[]⟩ : ByteArray)] from (k33_mkM _ _ _ (⟨1, 1, (⟨#[]⟩ : ByteArray)⟩ : S33) )) (Reps.c3 (show Kd.M k33 _ _ _ (⟨1, 2, (⟨#[97]⟩ : ByteArray)⟩ : S33) [.int .i64 1, .int .i64 2, .string (⟨#[97]⟩ : ByteArray)] from (k33_mkM _ _ _ (⟨1, 2, (⟨#[97]⟩ : ByteArray)⟩ : S33) )) (Reps.c3 (show Kd.M k33 _ _ _ (⟨2, 1, (⟨#[]⟩ : ByteArray)⟩ : S33) [.int .i64 2, .int .i64 1, .string (⟨#[]⟩ : ByteArray)] from (k33_mkM _ _ _ (⟨2, 1, (⟨#[]⟩ : ByteArray)⟩ : S33) )) (Reps.none _ _))))); intro v288 wx11i0 ho88 hb hg_ hnew_; clear hg_ hnew_; (first | rw [← Ny287.out] at ho88 | (simp only [Int.reduceToNat] at ho88; rw [← Ny287.out] at ho88)); have n0_ := Aside0.mk (Kd.R_lower ho88 (below_size (by repeat (first | (with_reducible first | exact HB.out | apply below_alloc | apply pw_below_drewN | apply below_drew1) | exact HB.out)))); have n1_ := Aside0.mk (below_step (by repeat (first | (with_reducible first | exact HB.out | apply below_alloc | apply pw_below_drewN | apply below_drew1) | exact HB.out)) hb); clear HB; have HO289 := n0_; have HB := n1_; clear n0_ n1_; clear hb ho88; obtain ⟨Aox11i0, cox11i0, eox11i0⟩ := Kd.R_slice HO289.out; subst eox11i0) | ((with_reducible refine gate_dst (N := 1) rfl ?_); (try (refine gate_guard (by rfl) ?_; dsimp only)); refine box_event ?hg (N := 1) ?hd (cs := #[.int .i64 0, .int .i64 0, .slice none 0 0, .int .i64 0]) (t := 26) ?hr ?_; (case hd => rfl); (case hg => rfl); (case hr => first | (go_simp; done) | (go_simp; rfl)); intro gb290 hg wx1i0 hbox hb; have n0_ := Aside0.mk (Kd.R_below (by (with_reducible repeat (first | apply Kd.R_alloc | apply Kd.R_drewN | apply Kd.R_drew)); exact HO289.out) hb); have n1_ := Aside0.mk (below_step (by repeat (first | (with_reducible first | exact HB.out | apply below_alloc | apply pw_below_drewN | apply below_drew1) | exact HB.out)) hb); have n2_ := Aside0.mk (hbox); have n3_ := Aside0.mk ((by rw [hg]; exact (below_size (by repeat (first | (with_reducible first | exact HB.out | apply below_alloc | apply pw_below_drewN | apply below_drew1) | exact HB.out))) : w.heap.size ≤ gb290)); have n4_ := Aside0.mk ((by rw [hg]; exact (below_size (by repeat (first | (with_reducible first | exact HB.out | apply below_alloc | apply pw_below_drewN | apply below_drew1) | exact HB.out))) : w.heap.size ≤ gb290)); clear HO289; clear HB; have HO289 := n0_; have HB := n1_; have BK290 := n2_; have GW290 := n3_; have GE290 := n4_; clear n0_ n1_ n2_ n3_ n4_; clear hb hbox hg; have hczx1b290_0 : wx1i0.cell? ⟨gb290, 0, none⟩ = some (.int .i64 0) := (blk_cell BK290.out 0).trans rfl; have hczx1b290_1 : wx1i0.cell? ⟨gb290, 1, none⟩ = some (.int .i64 0) := (blk_cell BK290.out 1).trans rfl; have hczx1b290_2 : wx1i0.cell? ⟨gb290, 2, none⟩ = some (.slice none 0 0) := (blk_cell BK290.out 2).trans rfl; have hczx1b290_3 : wx1i0.cell? ⟨gb290, 3, none⟩ = some (.int .i64 0) := (blk_cell BK290.out 3).trans rfl; have hfzx1b290_0 := blk_frozen BK290.out 0; have hfzx1b290_1 := blk_frozen BK290.out 1; have hfzx1b290_2 := blk_frozen BK290.out 2; have hfzx1b290_3 := blk_frozen BK290.out 3) | ((with_reducible refine gate_dst (N := 17) rfl ?_); (try (refine gate_guard (by rfl) ?_; dsimp only)); refine Kd.R_lit k33 _ 33 ?hg (N := 17) ?hd (xs := ([(⟨3, 1, (⟨#[]⟩ : ByteArray)⟩ : S33)] : List (S33))) (inner := [.int .i64 3, .int .i64 1, .string (⟨#[]⟩ : ByteArray)]) (ok := fun _ => True) (okp := fun _ => True) ?hr ?hp (fun _ hk => hk) trivial (Below.refl _ _) (Nat.le_refl _) (by simp) ?_; (case hd => rfl); (case hg => rfl); (case hr => first | (go_simp; done) | (go_simp; rfl)); (case hp => exact (Reps.c3 (show Kd.M k33 _ _ _ (⟨3, 1, (⟨#[]⟩ : ByteArray)⟩ : S33) [.int .i64 3, .int .i64 1, .string (⟨#[]⟩ : ByteArray)] from (k33_mkM _ _ _ (⟨3, 1, (⟨#[]⟩ : ByteArray)⟩ : S33) )) (Reps.none _ _))); intro v292 wx17i0 ho19 hb hg_ hnew_; clear hg_ hnew_; (first | rw [← Ny291.out] at ho19 | (simp only [Int.reduceToNat] at ho19; rw [← Ny291.out] at ho19)); have n0_ := Aside0.mk (Kd.R_elder' (by (with_reducible repeat (first | apply Kd.R_alloc | apply Kd.R_drewN | apply Kd.R_drew)); exact (Kd.R_mono (Kd.R_far (p := ⟨gb290, 3, none⟩) (Kd.R_far (p := ⟨gb290, 2, none⟩) (Kd.R_far (p := ⟨gb290, 1, none⟩) (Kd.R_far (p := ⟨gb290, 0, none⟩) (Kd.R_types HO289.out BK290.out (by decide)) (fun _ hk => hk.2) (.int .i64 0)) (fun _ hk => hk.2) (.int .i64 0)) (fun _ hk => hk.2) (.slice Aox11i0 y287.length cox11i0)) (fun _ hk => hk.2) (.int .i64 0)) (fun _ h_ => h_.1))) (Kd.R_base ho19) hb); have n1_ := Aside0.mk (Kd.R_lower (Kd.R_new' ho19 (Kd.R_lt (by (with_reducible repeat (first | apply Kd.R_alloc | apply Kd.R_drewN | apply Kd.R_drew)); exact (Kd.R_mono (Kd.R_far (p := ⟨gb290, 3, none⟩) (Kd.R_far (p := ⟨gb290, 2, none⟩) (Kd.R_far (p := ⟨gb290, 1, none⟩) (Kd.R_far (p := ⟨gb290, 0, none⟩) (Kd.R_types HO289.out BK290.out (by decide)) (fun _ hk => hk.2) (.int .i64 0)) (fun _ hk => hk.2) (.int .i64 0)) (fun _ hk => hk.2) (.slice Aox11i0 y287.length cox11i0)) (fun _ hk => hk.2) (.int .i64 0)) (fun _ h_ => h_.1))))) (below_size (by repeat (first | (with_reducible first | exact HB.out | apply below_alloc | apply pw_below_drewN | apply below_drew1 | refine below_set ?_ GE290.out) | exact HB.out)))); have n2_ := Aside0.mk (blk_below (g := gb290) (o := .cells #[.int .i64 0, .int .i64 0, .slice Aox11i0 y287.length cox11i0, .int .i64 0] 26 (0, 0)) (by (with_reducible repeat (first | refine blk_drewN ?_ _ | refine blk_drew ?_ | refine blk_alloc ?_ _)); refine blk_put (cs := #[.int .i64 0, .int .i64 0, .slice Aox11i0 y287.length cox11i0, .int .i64 0]) ?_ 3 _ rfl; (with_reducible repeat (first | refine blk_drewN ?_ _ | refine blk_drew ?_ | refine blk_alloc ?_ _)); refine blk_put (cs := #[.int .i64 0, .int .i64 0, .slice none 0 0, .int .i64 0]) ?_ 2 _ rfl; (with_reducible repeat (first | refine blk_drewN ?_ _ | refine blk_drew ?_ | refine blk_alloc ?_ _)); refine blk_put (cs := #[.int .i64 0, .int .i64 0, .slice none 0 0, .int .i64 0]) ?_ 1 _ rfl; (with_reducible repeat (first | refine blk_drewN ?_ _ | refine blk_drew ?_ | refine blk_alloc ?_ _)); refine blk_put (cs := #[.int .i64 0, .int .i64 0, .slice none 0 0, .int .i64 0]) ?_ 0 _ rfl; (with_reducible repeat (first | refine blk_drewN ?_ _ | refine blk_drew ?_ | refine blk_alloc ?_ _)); exact BK290.out) hb); have n3_ := Aside0.mk (below_step (by repeat (first | (with_reducible first | exact HB.out | apply below_alloc | apply pw_below_drewN | apply below_drew1 | refine below_set ?_ GE290.out) | exact HB.out)) hb); clear HO289; clear BK290; clear HB; have HO289 := n0_; have HO293 := n1_; have BK290 := n2_; have HB := n3_; clear n0_ n1_ n2_ n3_; clear hb ho19; obtain ⟨Aox17i0, cox17i0, eox17i0⟩ := Kd.R_slice HO293.out; subst eox17i0) | ((with_reducible refine gate_dst (N := 17) rfl ?_); (try (refine gate_guard (by rfl) ?_; dsimp only)); refine Kd.R_lit k33 _ 33 ?hg (N := 17) ?hd (xs := ([(⟨3, 1, (⟨#[]⟩ : ByteArray)⟩ : S33)] : List (S33))) (inner := [.int .i64 3, .int .i64 1, .string (⟨#[]⟩ : ByteArray)]) (ok := fun _ => True) (okp := fun _ => True) ?hr ?hp (fun _ hk => hk) trivial (Below.refl _ _) (Nat.le_refl _) (by simp) ?_; (case hd => rfl); (case hg => rfl); (case hr => first | (go_simp; done) | (go_simp; rfl)); (case hp => exact (Reps.c3 (show Kd.M k33 _ _ _ (⟨3, 1, (⟨#[]⟩ : ByteArray)⟩ : S33) [.int .i64 3, .int .i64 1, .string (⟨#[]⟩ : ByteArray)] from (k33_mkM _ _ _ (⟨3, 1, (⟨#[]⟩ : ByteArray)⟩ : S33) )) (Reps.none _ _))); intro v292 wx17i0 ho45 hb hg_ hnew_; clear hg_ hnew_; (first | rw [← Ny291.out] at ho45 | (simp only [Int.reduceToNat] at ho45; rw [← Ny291.out] at ho45)); have n0_ := Aside0.mk (Kd.R_elder' (by (with_reducible repeat (first | apply Kd.R_alloc | apply Kd.R_drewN | apply Kd.R_drew)); exact (Kd.R_mono (Kd.R_far (p := ⟨gb290, 3, none⟩) (Kd.R_far (p := ⟨gb290, 2, none⟩) (Kd.R_far (p := ⟨gb290, 1, none⟩) (Kd.R_far (p := ⟨gb290, 0, none⟩) (Kd.R_types HO289.out BK290.out (by decide)) (fun _ hk => hk.2) (.int .i64 0)) (fun _ hk => hk.2) (.int .i64 0)) (fun _ hk => hk.2) (.slice Aox11i0 y287.length cox11i0)) (fun _ hk => hk.2) (.int .i64 0)) (fun _ h_ => h_.1))) (Kd.R_base ho45) hb); have n1_ := Aside0.mk (Kd.R_lower (Kd.R_new' ho45 (Kd.R_lt (by (with_reducible repeat (first | apply Kd.R_alloc | apply Kd.R_drewN | apply Kd.R_drew)); exact (Kd.R_mono (Kd.R_far (p := ⟨gb290, 3, none⟩) (Kd.R_far (p := ⟨gb290, 2, none⟩) (Kd.R_far (p := ⟨gb290, 1, none⟩) (Kd.R_far (p := ⟨gb290, 0, none⟩) (Kd.R_types HO289.out BK290.out (by decide)) (fun _ hk => hk.2) (.int .i64 0)) (fun _ hk => hk.2) (.int .i64 0)) (fun _ hk => hk.2) (.slice Aox11i0 y287.length cox11i0)) (fun _ hk => hk.2) (.int .i64 0)) (fun _ h_ => h_.1))))) (below_size (by repeat (first | (with_reducible first | exact HB.out | apply below_alloc | apply pw_below_drewN | apply below_drew1 | refine below_set ?_ GE290.out) | exact HB.out)))); have n2_ := Aside0.mk (blk_below (g := gb290) (o := .cells #[.int .i64 0, .int .i64 0, .slice Aox11i0 y287.length cox11i0, .int .i64 0] 26 (0, 0)) (by (with_reducible repeat (first | refine blk_drewN ?_ _ | refine blk_drew ?_ | refine blk_alloc ?_ _)); refine blk_put (cs := #[.int .i64 0, .int .i64 0, .slice Aox11i0 y287.length cox11i0, .int .i64 0]) ?_ 3 _ rfl; (with_reducible repeat (first | refine blk_drewN ?_ _ | refine blk_drew ?_ | refine blk_alloc ?_ _)); refine blk_put (cs := #[.int .i64 0, .int .i64 0, .slice none 0 0, .int .i64 0]) ?_ 2 _ rfl; (with_reducible repeat (first | refine blk_drewN ?_ _ | refine blk_drew ?_ | refine blk_alloc ?_ _)); refine blk_put (cs := #[.int .i64 0, .int .i64 0, .slice none 0 0, .int .i64 0]) ?_ 1 _ rfl; (with_reducible repeat (first | refine blk_drewN ?_ _ | refine blk_drew ?_ | refine blk_alloc ?_ _)); refine blk_put (cs := #[.int .i64 0, .int .i64 0, .slice none 0 0, .int .i64 0]) ?_ 0 _ rfl; (with_reducible repeat (first | refine blk_drewN ?_ _ | refine blk_drew ?_ | refine blk_alloc ?_ _)); exact BK290.out) hb); have n3_ := Aside0.mk (below_step (by repeat (first | (with_reducible first | exact HB.out | apply below_alloc | apply pw_below_drewN | apply below_drew1 | refine below_set ?_ GE290.out) | exact HB.out)) hb); clear HO289; clear BK290; clear HB; have HO289 := n0_; have HO293 := n1_; have BK290 := n2_; have HB := n3_; clear n0_ n1_ n2_ n3_; clear hb ho45; obtain ⟨Aox17i0, cox17i0, eox17i0⟩ := Kd.R_slice HO293.out; subst eox17i0) | ((with_reducible refine gate_dst (N := 17) rfl ?_); (try (refine gate_guard (by rfl) ?_; dsimp only)); refine Kd.R_lit k33 _ 33 ?hg (N := 17) ?hd (xs := ([(⟨3, 1, (⟨#[]⟩ : ByteArray)⟩ : S33)] : List (S33))) (inner := [.int .i64 3, .int .i64 1, .string (⟨#[]⟩ : ByteArray)]) (ok := fun _ => True) (okp := fun _ => True) ?hr ?hp (fun _ hk => hk) trivial (Below.refl _ _) (Nat.le_refl _) (by simp) ?_; (case hd => rfl); (case hg => rfl); (case hr => first | (go_simp; done) | (go_simp; rfl)); (case hp => exact (Reps.c3 (show Kd.M k33 _ _ _ (⟨3, 1, (⟨#[]⟩ : ByteArray)⟩ : S33) [.int .i64 3, .int .i64 1, .string (⟨#[]⟩ : ByteArray)] from (k33_mkM _ _ _ (⟨3, 1, (⟨#[]⟩ : ByteArray)⟩ : S33) )) (Reps.none _ _))); intro v292 wx17i0 ho69 hb hg_ hnew_; clear hg_ hnew_; (first | rw [← Ny291.out] at ho69 | (simp only [Int.reduceToNat] at ho69; rw [← Ny291.out] at ho69)); have n0_ := Aside0.mk (Kd.R_elder' (by (with_reducible repeat (first | apply Kd.R_alloc | apply Kd.R_drewN | apply Kd.R_drew)); exact (Kd.R_mono (Kd.R_far (p := ⟨gb290, 3, none⟩) (Kd.R_far (p := ⟨gb290, 2, none⟩) (Kd.R_far (p := ⟨gb290, 1, none⟩) (Kd.R_far (p := ⟨gb290, 0, none⟩) (Kd.R_types HO289.out BK290.out (by decide)) (fun _ hk => hk.2) (.int .i64 0)) (fun _ hk => hk.2) (.int .i64 0)) (fun _ hk => hk.2) (.slice Aox11i0 y287.length cox11i0)) (fun _ hk => hk.2) (.int .i64 0)) (fun _ h_ => h_.1))) (Kd.R_base ho69) hb); have n1_ := Aside0.mk (Kd.R_lower (Kd.R_new' ho69 (Kd.R_lt (by (with_reducible repeat (first | apply Kd.R_alloc | apply Kd.R_drewN | apply Kd.R_drew)); exact (Kd.R_mono (Kd.R_far (p := ⟨gb290, 3, none⟩) (Kd.R_far (p := ⟨gb290, 2, none⟩) (Kd.R_far (p := ⟨gb290, 1, none⟩) (Kd.R_far (p := ⟨gb290, 0, none⟩) (Kd.R_types HO289.out BK290.out (by decide)) (fun _ hk => hk.2) (.int .i64 0)) (fun _ hk => hk.2) (.int .i64 0)) (fun _ hk => hk.2) (.slice Aox11i0 y287.length cox11i0)) (fun _ hk => hk.2) (.int .i64 0)) (fun _ h_ => h_.1))))) (below_size (by repeat (first | (with_reducible first | exact HB.out | apply below_alloc | apply pw_below_drewN | apply below_drew1 | refine below_set ?_ GE290.out) | exact HB.out)))); have n2_ := Aside0.mk (blk_below (g := gb290) (o := .cells #[.int .i64 0, .int .i64 0, .slice Aox11i0 y287.length cox11i0, .int .i64 0] 26 (0, 0)) (by (with_reducible repeat (first | refine blk_drewN ?_ _ | refine blk_drew ?_ | refine blk_alloc ?_ _)); refine blk_put (cs := #[.int .i64 0, .int .i64 0, .slice Aox11i0 y287.length cox11i0, .int .i64 0]) ?_ 3 _ rfl; (with_reducible repeat (first | refine blk_drewN ?_ _ | refine blk_drew ?_ | refine blk_alloc ?_ _)); refine blk_put (cs := #[.int .i64 0, .int .i64 0, .slice none 0 0, .int .i64 0]) ?_ 2 _ rfl; (with_reducible repeat (first | refine blk_drewN ?_ _ | refine blk_drew ?_ | refine blk_alloc ?_ _)); refine blk_put (cs := #[.int .i64 0, .int .i64 0, .slice none 0 0, .int .i64 0]) ?_ 1 _ rfl; (with_reducible repeat (first | refine blk_drewN ?_ _ | refine blk_drew ?_ | refine blk_alloc ?_ _)); refine blk_put (cs := #[.int .i64 0, .int .i64 0, .slice none 0 0, .int .i64 0]) ?_ 0 _ rfl; (with_reducible repeat (first | refine blk_drewN ?_ _ | refine blk_drew ?_ | refine blk_alloc ?_ _)); exact BK290.out) hb); have n3_ := Aside0.mk (below_step (by repeat (first | (with_reducible first | exact HB.out | apply below_alloc | apply pw_below_drewN | apply below_drew1 | refine below_set ?_ GE290.out) | exact HB.out)) hb); clear HO289; clear BK290; clear HB; have HO289 := n0_; have HO293 := n1_; have BK290 := n2_; have HB := n3_; clear n0_ n1_ n2_ n3_; clear hb ho69; obtain ⟨Aox17i0, cox17i0, eox17i0⟩ := Kd.R_slice HO293.out; subst eox17i0) | ((with_reducible refine gate_dst (N := 17) rfl ?_); (try (refine gate_guard (by rfl) ?_; dsimp only)); refine Kd.R_lit k33 _ 33 ?hg (N := 17) ?hd (xs := ([(⟨3, 1, (⟨#[]⟩ : ByteArray)⟩ : S33)] : List (S33))) (inner := [.int .i64 3, .int .i64 1, .string (⟨#[]⟩ : ByteArray)]) (ok := fun _ => True) (okp := fun _ => True) ?hr ?hp (fun _ hk => hk) trivial (Below.refl _ _) (Nat.le_refl _) (by simp) ?_; (case hd => rfl); (case hg => rfl); (case hr => first | (go_simp; done) | (go_simp; rfl)); (case hp => exact (Reps.c3 (show Kd.M k33 _ _ _ (⟨3, 1, (⟨#[]⟩ : ByteArray)⟩ : S33) [.int .i64 3, .int .i64 1, .string (⟨#[]⟩ : ByteArray)] from (k33_mkM _ _ _ (⟨3, 1, (⟨#[]⟩ : ByteArray)⟩ : S33) )) (Reps.none _ _))); intro v292 wx17i0 ho93 hb hg_ hnew_; clear hg_ hnew_; (first | rw [← Ny291.out] at ho93 | (simp only [Int.reduceToNat] at ho93; rw [← Ny291.out] at ho93)); have n0_ := Aside0.mk (Kd.R_elder' (by (with_reducible repeat (first | apply Kd.R_alloc | apply Kd.R_drewN | apply Kd.R_drew)); exact (Kd.R_mono (Kd.R_far (p := ⟨gb290, 3, none⟩) (Kd.R_far (p := ⟨gb290, 2, none⟩) (Kd.R_far (p := ⟨gb290, 1, none⟩) (Kd.R_far (p := ⟨gb290, 0, none⟩) (Kd.R_types HO289.out BK290.out (by decide)) (fun _ hk => hk.2) (.int .i64 0)) (fun _ hk => hk.2) (.int .i64 0)) (fun _ hk => hk.2) (.slice Aox11i0 y287.length cox11i0)) (fun _ hk => hk.2) (.int .i64 0)) (fun _ h_ => h_.1))) (Kd.R_base ho93) hb); have n1_ := Aside0.mk (Kd.R_lower (Kd.R_new' ho93 (Kd.R_lt (by (with_reducible repeat (first | apply Kd.R_alloc | apply Kd.R_drewN | apply Kd.R_drew)); exact (Kd.R_mono (Kd.R_far (p := ⟨gb290, 3, none⟩) (Kd.R_far (p := ⟨gb290, 2, none⟩) (Kd.R_far (p := ⟨gb290, 1, none⟩) (Kd.R_far (p := ⟨gb290, 0, none⟩) (Kd.R_types HO289.out BK290.out (by decide)) (fun _ hk => hk.2) (.int .i64 0)) (fun _ hk => hk.2) (.int .i64 0)) (fun _ hk => hk.2) (.slice Aox11i0 y287.length cox11i0)) (fun _ hk => hk.2) (.int .i64 0)) (fun _ h_ => h_.1))))) (below_size (by repeat (first | (with_reducible first | exact HB.out | apply below_alloc | apply pw_below_drewN | apply below_drew1 | refine below_set ?_ GE290.out) | exact HB.out)))); have n2_ := Aside0.mk (blk_below (g := gb290) (o := .cells #[.int .i64 0, .int .i64 0, .slice Aox11i0 y287.length cox11i0, .int .i64 0] 26 (0, 0)) (by (with_reducible repeat (first | refine blk_drewN ?_ _ | refine blk_drew ?_ | refine blk_alloc ?_ _)); refine blk_put (cs := #[.int .i64 0, .int .i64 0, .slice Aox11i0 y287.length cox11i0, .int .i64 0]) ?_ 3 _ rfl; (with_reducible repeat (first | refine blk_drewN ?_ _ | refine blk_drew ?_ | refine blk_alloc ?_ _)); refine blk_put (cs := #[.int .i64 0, .int .i64 0, .slice none 0 0, .int .i64 0]) ?_ 2 _ rfl; (with_reducible repeat (first | refine blk_drewN ?_ _ | refine blk_drew ?_ | refine blk_alloc ?_ _)); refine blk_put (cs := #[.int .i64 0, .int .i64 0, .slice none 0 0, .int .i64 0]) ?_ 1 _ rfl; (with_reducible repeat (first | refine blk_drewN ?_ _ | refine blk_drew ?_ | refine blk_alloc ?_ _)); refine blk_put (cs := #[.int .i64 0, .int .i64 0, .slice none 0 0, .int .i64 0]) ?_ 0 _ rfl; (with_reducible repeat (first | refine blk_drewN ?_ _ | refine blk_drew ?_ | refine blk_alloc ?_ _)); exact BK290.out) hb); have n3_ := Aside0.mk (below_step (by repeat (first | (with_reducible first | exact HB.out | apply below_alloc | apply pw_below_drewN | apply below_drew1 | refine below_set ?_ GE290.out) | exact HB.out)) hb); clear HO289; clear BK290; clear HB; have HO289 := n0_; have HO293 := n1_; have BK290 := n2_; have HB := n3_; clear n0_ n1_ n2_ n3_; clear hb ho93; obtain ⟨Aox17i0, cox17i0, eox17i0⟩ := Kd.R_slice HO293.out; subst eox17i0) | ((with_reducible refine gate_callee (f := 20) rfl ?_); refine goesL_ (some 18) rfl rfl Try.func20 (by kernel_rfl) rfl #[.agg #[.int .i64 0, .int .i64 0, .slice Aox11i0 y287.length cox11i0, .int .i64 0], .agg #[.int .i64 2, .int .i64 1], .slice Aox17i0 y291.length cox17i0, .int .i64 9] rfl (by (try simp only [List.map_toArray, List.map_cons, List.map_nil]); first | done | rfl | (simp only [List.length_drop, List.length_take]; rfl)) ?_; (with_reducible refine (entries_Accept.calls k 0 0 _ _ y287 0 2 1 _ _ y291 9 t294 t295 t296 t299 t300 _ t302 _ ?side1 ?side2 ?side3 ?side4 A1.out).mono ?_); (case side1 => repeat (first | exact (Kd.R_reads' HO289.out).2.2 | (with_reducible refine Kd.C_alloc ?_ _) | (with_reducible refine Kd.C_drewN ?_ _) | (with_reducible refine Kd.C_drew ?_))); (case side2 => exact (Kd.R_reads' HO289.out).2.1); (case side3 => repeat (first | exact (Kd.R_reads' HO293.out).2.2 | (with_reducible refine Kd.C_alloc ?_ _) | (with_reducible refine Kd.C_drewN ?_ _) | (with_reducible refine Kd.C_drew ?_))); (case side4 => exact (Kd.R_reads' HO293.out).2.1); rintro e wx18i0 ⟨v297, rfl, ho0, hb⟩; refine ⟨_, rfl, ?_⟩; have n0_ := Aside0.mk (Kd.R_elder' (by (with_reducible repeat (first | apply Kd.R_alloc | apply Kd.R_drewN | apply Kd.R_drew)); exact HO289.out) (Kd.R_base ho0) hb); have n1_ := Aside0.mk (Kd.R_elder' (by (with_reducible repeat (first | apply Kd.R_alloc | apply Kd.R_drewN | apply Kd.R_drew)); exact HO293.out) (Kd.R_base ho0) hb); have n2_ := Aside0.mk (Kd.R_lower (Kd.R_new' (Kd.R_new' ho0 (Kd.R_lt (by (with_reducible repeat (first | apply Kd.R_alloc | apply Kd.R_drewN | apply Kd.R_drew)); exact HO289.out))) (Kd.R_lt (by (with_reducible repeat (first | apply Kd.R_alloc | apply Kd.R_drewN | apply Kd.R_drew)); exact HO293.out))) (below_size (by repeat (first | (with_reducible first | exact HB.out | apply below_alloc | apply pw_below_drewN | apply below_drew1 | refine below_set ?_ GE290.out) | exact HB.out)))); have n3_ := Aside0.mk (blk_below (g := gb290) (o := .cells #[.int .i64 0, .int .i64 0, .slice Aox11i0 y287.length cox11i0, .int .i64 0] 26 (0, 0)) (by (with_reducible repeat (first | refine blk_drewN ?_ _ | refine blk_drew ?_ | refine blk_alloc ?_ _)); exact BK290.out) hb); have n4_ := Aside0.mk (below_step (by repeat (first | (with_reducible first | exact HB.out | apply below_alloc | apply pw_below_drewN | apply below_drew1 | refine below_set ?_ GE290.out) | exact HB.out)) hb); clear HO289; clear HO293; clear BK290; clear HB; have HO289 := n0_; have HO293 := n1_; have HO298 := n2_; have BK290 := n3_; have HB := n4_; clear n0_ n1_ n2_ n3_ n4_; (try clear hb); (try clear hb2); (try clear hk); (try clear hi); (try clear ho0)) | ((with_reducible refine gate_dst (N := 2) rfl ?_); (try (refine gate_guard (by rfl) ?_; dsimp only)); refine box_event ?hg (N := 2) ?hd (cs := #[.int .i64 0, .int .i64 0, .slice none 0 0, .int .i64 0]) (t := 26) ?hr ?_; (case hd => rfl); (case hg => rfl); (case hr => first | (go_simp; done) | (go_simp; rfl)); intro gb303 hg wx2i0 hbox hb; have n0_ := Aside0.mk (Kd.R_below (by (with_reducible repeat (first | apply Kd.R_alloc | apply Kd.R_drewN | apply Kd.R_drew)); exact HO289.out) hb); have n1_ := Aside0.mk (Kd.R_below (by (with_reducible repeat (first | apply Kd.R_alloc | apply Kd.R_drewN | apply Kd.R_drew)); exact HO293.out) hb); have n2_ := Aside0.mk (Kd.R_below (by (with_reducible repeat (first | apply Kd.R_alloc | apply Kd.R_drewN | apply Kd.R_drew)); exact HO298.out) hb); have n3_ := Aside0.mk (blk_below (g := gb290) (o := .cells #[.int .i64 0, .int .i64 0, .slice Aox11i0 y287.length cox11i0, .int .i64 0] 26 (0, 0)) (by (with_reducible repeat (first | refine blk_drewN ?_ _ | refine blk_drew ?_ | refine blk_alloc ?_ _)); exact BK290.out) hb); have n4_ := Aside0.mk (below_step (by repeat (first | (with_reducible first | exact HB.out | apply below_alloc | apply pw_below_drewN | apply below_drew1 | refine below_set ?_ GE290.out) | exact HB.out)) hb); have n5_ := Aside0.mk (hbox); have n6_ := Aside0.mk ((by rw [hg]; exact (below_size (by repeat (first | (with_reducible first | exact HB.out | apply below_alloc | apply pw_below_drewN | apply below_drew1 | refine below_set ?_ GE290.out) | exact HB.out))) : w.heap.size ≤ gb303)); have n7_ := Aside0.mk ((by rw [hg]; exact (below_size (by repeat (first | (with_reducible first | exact HB.out | apply below_alloc | apply pw_below_drewN | apply below_drew1 | refine below_set ?_ GE290.out) | exact HB.out))) : w.heap.size ≤ gb303)); have n8_ := Aside0.mk ((by rw [hg]; exact Nat.ne_of_lt (blk_lt (g := gb290) (o := .cells #[.int .i64 0, .int .i64 0, .slice Aox11i0 y287.length cox11i0, .int .i64 0] 26 (0, 0)) (by (with_reducible repeat (first | refine blk_drewN ?_ _ | refine blk_drew ?_ | refine blk_alloc ?_ _)); exact BK290.out)) : gb290 ≠ gb303)); have n9_ := Aside0.mk ((by rw [hg]; exact Nat.ne_of_gt (blk_lt (g := gb290) (o := .cells #[.int .i64 0, .int .i64 0, .slice Aox11i0 y287.length cox11i0, .int .i64 0] 26 (0, 0)) (by (with_reducible repeat (first | refine blk_drewN ?_ _ | refine blk_drew ?_ | refine blk_alloc ?_ _)); exact BK290.out)) : gb303 ≠ gb290)); clear HO289; clear HO293; clear HO298; clear BK290; clear HB; have HO289 := n0_; have HO293 := n1_; have HO298 := n2_; have BK290 := n3_; have HB := n4_; have BK303 := n5_; have GW303 := n6_; have GE303 := n7_; have NB290_303 := n8_; have NB303_290 := n9_; clear n0_ n1_ n2_ n3_ n4_ n5_ n6_ n7_ n8_ n9_; clear hb hbox hg; have hnbx2b303_290 := NB303_290.out; have hncx2b290_303 := NB290_303.out; have hczx2b303_0 : wx2i0.cell? ⟨gb303, 0, none⟩ = some (.int .i64 0) := (blk_cell BK303.out 0).trans rfl; have hczx2b303_1 : wx2i0.cell? ⟨gb303, 1, none⟩ = some (.int .i64 0) := (blk_cell BK303.out 1).trans rfl; have hczx2b303_2 : wx2i0.cell? ⟨gb303, 2, none⟩ = some (.slice none 0 0) := (blk_cell BK303.out 2).trans rfl; have hczx2b303_3 : wx2i0.cell? ⟨gb303, 3, none⟩ = some (.int .i64 0) := (blk_cell BK303.out 3).trans rfl; have hfzx2b303_0 := blk_frozen BK303.out 0; have hfzx2b303_1 := blk_frozen BK303.out 1; have hfzx2b303_2 := blk_frozen BK303.out 2; have hfzx2b303_3 := blk_frozen BK303.out 3; obtain ⟨Aox2i0, cox2i0, eox2i0⟩ := Kd.R_slice HO298.out; subst eox2i0; have hczx2b290_0 : wx2i0.cell? ⟨gb290, 0, none⟩ = some (.int .i64 0) := (blk_cell BK290.out 0).trans rfl; have hczx2b290_1 : wx2i0.cell? ⟨gb290, 1, none⟩ = some (.int .i64 0) := (blk_cell BK290.out 1).trans rfl; have hczx2b290_2 : wx2i0.cell? ⟨gb290, 2, none⟩ = some (.slice Aox11i0 y287.length cox11i0) := (blk_cell BK290.out 2).trans rfl; have hczx2b290_3 : wx2i0.cell? ⟨gb290, 3, none⟩ = some (.int .i64 0) := (blk_cell BK290.out 3).trans rfl; have hfzx2b290_0 := blk_frozen BK290.out 0; have hfzx2b290_1 := blk_frozen BK290.out 1; have hfzx2b290_2 := blk_frozen BK290.out 2; have hfzx2b290_3 := blk_frozen BK290.out 3) | ((with_reducible refine gate_dst (N := 25) rfl ?_); (try (refine gate_guard (by rfl) ?_; dsimp only)); refine Kd.R_lit (Kd.int .i64) _ 3 ?hg (N := 25) ?hd (xs := ([3, 3, 1] : List Int)) (inner := [.int .i64 3, .int .i64 3, .int .i64 1]) (ok := fun _ => True) (okp := fun _ => True) ?hr ?hp (fun _ hk => hk) trivial (Below.refl _ _) (Nat.le_refl _) (by simp) ?_; (case hd => rfl); (case hg => rfl); (case hr => first | (go_simp; done) | (go_simp; rfl)); (case hp => exact (Reps.one (show Kd.M (Kd.int .i64) _ _ _ 3 [.int .i64 3] from rfl) (Reps.one (show Kd.M (Kd.int .i64) _ _ _ 3 [.int .i64 3] from rfl) (Reps.one (show Kd.M (Kd.int .i64) _ _ _ 1 [.int .i64 1] from rfl) (Reps.none _ _))))); intro v305 wx25i0 ho28 hb hg_ hnew_; clear hg_ hnew_; (first | rw [← Ny304.out] at ho28 | (simp only [Int.reduceToNat] at ho28; rw [← Ny304.out] at ho28)); have n0_ := Aside0.mk (Kd.R_below (by (with_reducible repeat (first | apply Kd.R_alloc | apply Kd.R_drewN | apply Kd.R_drew)); exact (Kd.R_mono (Kd.R_far (p := ⟨gb303, 3, none⟩) (Kd.R_far (p := ⟨gb303, 2, none⟩) (Kd.R_far (p := ⟨gb303, 1, none⟩) (Kd.R_far (p := ⟨gb303, 0, none⟩) (Kd.R_types HO289.out BK303.out (by decide)) (fun _ hk => hk.2) (.int .i64 t294)) (fun _ hk => hk.2) (.int .i64 t295)) (fun _ hk => hk.2) (.slice Aox2i0 t296.length cox2i0)) (fun _ hk => hk.2) (.int .i64 t299)) (fun _ h_ => h_.1))) hb); have n1_ := Aside0.mk (Kd.R_below (by (with_reducible repeat (first | apply Kd.R_alloc | apply Kd.R_drewN | apply Kd.R_drew)); exact (Kd.R_mono (Kd.R_far (p := ⟨gb303, 3, none⟩) (Kd.R_far (p := ⟨gb303, 2, none⟩) (Kd.R_far (p := ⟨gb303, 1, none⟩) (Kd.R_far (p := ⟨gb303, 0, none⟩) (Kd.R_types HO293.out BK303.out (by decide)) (fun _ hk => hk.2) (.int .i64 t294)) (fun _ hk => hk.2) (.int .i64 t295)) (fun _ hk => hk.2) (.slice Aox2i0 t296.length cox2i0)) (fun _ hk => hk.2) (.int .i64 t299)) (fun _ h_ => h_.1))) hb); have n2_ := Aside0.mk (Kd.R_below (by (with_reducible repeat (first | apply Kd.R_alloc | apply Kd.R_drewN | apply Kd.R_drew)); exact (Kd.R_mono (Kd.R_far (p := ⟨gb303, 3, none⟩) (Kd.R_far (p := ⟨gb303, 2, none⟩) (Kd.R_far (p := ⟨gb303, 1, none⟩) (Kd.R_far (p := ⟨gb303, 0, none⟩) (Kd.R_types HO298.out BK303.out (by decide)) (fun _ hk => hk.2) (.int .i64 t294)) (fun _ hk => hk.2) (.int .i64 t295)) (fun _ hk => hk.2) (.slice Aox2i0 t296.length cox2i0)) (fun _ hk => hk.2) (.int .i64 t299)) (fun _ h_ => h_.1))) hb); have n3_ := Aside0.mk (Kd.R_lower ho28 (below_size (by repeat (first | (with_reducible first | exact HB.out | apply below_alloc | apply pw_below_drewN | apply below_drew1 | refine below_set ?_ GE290.out | refine below_set ?_ GE303.out) | exact HB.out)))); have n4_ := Aside0.mk (blk_below (g := gb290) (o := .cells #[.int .i64 0, .int .i64 0, .slice Aox11i0 y287.length cox11i0, .int .i64 0] 26 (0, 0)) (by (with_reducible repeat (first | refine blk_drewN ?_ _ | refine blk_drew ?_ | refine blk_alloc ?_ _)); refine blk_far ?_ NB290_303.out _; (with_reducible repeat (first | refine blk_drewN ?_ _ | refine blk_drew ?_ | refine blk_alloc ?_ _)); refine blk_far ?_ NB290_303.out _; (with_reducible repeat (first | refine blk_drewN ?_ _ | refine blk_drew ?_ | refine blk_alloc ?_ _)); refine blk_far ?_ NB290_303.out _; (with_reducible repeat (first | refine blk_drewN ?_ _ | refine blk_drew ?_ | refine blk_alloc ?_ _)); refine blk_far ?_ NB290_303.out _; (with_reducible repeat (first | refine blk_drewN ?_ _ | refine blk_drew ?_ | refine blk_alloc ?_ _)); exact BK290.out) hb); have n5_ := Aside0.mk (blk_below (g := gb303) (o := .cells #[.int .i64 t294, .int .i64 t295, .slice Aox2i0 t296.length cox2i0, .int .i64 t299] 26 (0, 0)) (by (with_reducible repeat (first | refine blk_drewN ?_ _ | refine blk_drew ?_ | refine blk_alloc ?_ _)); refine blk_put (cs := #[.int .i64 t294, .int .i64 t295, .slice Aox2i0 t296.length cox2i0, .int .i64 0]) ?_ 3 _ rfl; (with_reducible repeat (first | refine blk_drewN ?_ _ | refine blk_drew ?_ | refine blk_alloc ?_ _)); refine blk_put (cs := #[.int .i64 t294, .int .i64 t295, .slice none 0 0, .int .i64 0]) ?_ 2 _ rfl; (with_reducible repeat (first | refine blk_drewN ?_ _ | refine blk_drew ?_ | refine blk_alloc ?_ _)); refine blk_put (cs := #[.int .i64 t294, .int .i64 0, .slice none 0 0, .int .i64 0]) ?_ 1 _ rfl; (with_reducible repeat (first | refine blk_drewN ?_ _ | refine blk_drew ?_ | refine blk_alloc ?_ _)); refine blk_put (cs := #[.int .i64 0, .int .i64 0, .slice none 0 0, .int .i64 0]) ?_ 0 _ rfl; (with_reducible repeat (first | refine blk_drewN ?_ _ | refine blk_drew ?_ | refine blk_alloc ?_ _)); exact BK303.out) hb); have n6_ := Aside0.mk (below_step (by repeat (first | (with_reducible first | exact HB.out | apply below_alloc | apply pw_below_drewN | apply below_drew1 | refine below_set ?_ GE290.out | refine below_set ?_ GE303.out) | exact HB.out)) hb); clear HO289; clear HO293; clear HO298; clear BK290; clear BK303; clear HB; have HO289 := n0_; have HO293 := n1_; have HO298 := n2_; have HO306 := n3_; have BK290 := n4_; have BK303 := n5_; have HB := n6_; clear n0_ n1_ n2_ n3_ n4_ n5_ n6_; clear hb ho28; obtain ⟨Aox25i0, cox25i0, eox25i0⟩ := Kd.R_slice HO306.out; subst eox25i0) | ((with_reducible refine gate_dst (N := 25) rfl ?_); (try (refine gate_guard (by rfl) ?_; dsimp only)); refine Kd.R_lit (Kd.int .i64) _ 3 ?hg (N := 25) ?hd (xs := ([3, 3, 1] : List Int)) (inner := [.int .i64 3, .int .i64 3, .int .i64 1]) (ok := fun _ => True) (okp := fun _ => True) ?hr ?hp (fun _ hk => hk) trivial (Below.refl _ _) (Nat.le_refl _) (by simp) ?_; (case hd => rfl); (case hg => rfl); (case hr => first | (go_simp; done) | (go_simp; rfl)); (case hp => exact (Reps.one (show Kd.M (Kd.int .i64) _ _ _ 3 [.int .i64 3] from rfl) (Reps.one (show Kd.M (Kd.int .i64) _ _ _ 3 [.int .i64 3] from rfl) (Reps.one (show Kd.M (Kd.int .i64) _ _ _ 1 [.int .i64 1] from rfl) (Reps.none _ _))))); intro v305 wx25i0 ho54 hb hg_ hnew_; clear hg_ hnew_; (first | rw [← Ny304.out] at ho54 | (simp only [Int.reduceToNat] at ho54; rw [← Ny304.out] at ho54)); have n0_ := Aside0.mk (Kd.R_below (by (with_reducible repeat (first | apply Kd.R_alloc | apply Kd.R_drewN | apply Kd.R_drew)); exact (Kd.R_mono (Kd.R_far (p := ⟨gb303, 3, none⟩) (Kd.R_far (p := ⟨gb303, 2, none⟩) (Kd.R_far (p := ⟨gb303, 1, none⟩) (Kd.R_far (p := ⟨gb303, 0, none⟩) (Kd.R_types HO289.out BK303.out (by decide)) (fun _ hk => hk.2) (.int .i64 t294)) (fun _ hk => hk.2) (.int .i64 t295)) (fun _ hk => hk.2) (.slice Aox2i0 t296.length cox2i0)) (fun _ hk => hk.2) (.int .i64 t299)) (fun _ h_ => h_.1))) hb); have n1_ := Aside0.mk (Kd.R_below (by (with_reducible repeat (first | apply Kd.R_alloc | apply Kd.R_drewN | apply Kd.R_drew)); exact (Kd.R_mono (Kd.R_far (p := ⟨gb303, 3, none⟩) (Kd.R_far (p := ⟨gb303, 2, none⟩) (Kd.R_far (p := ⟨gb303, 1, none⟩) (Kd.R_far (p := ⟨gb303, 0, none⟩) (Kd.R_types HO293.out BK303.out (by decide)) (fun _ hk => hk.2) (.int .i64 t294)) (fun _ hk => hk.2) (.int .i64 t295)) (fun _ hk => hk.2) (.slice Aox2i0 t296.length cox2i0)) (fun _ hk => hk.2) (.int .i64 t299)) (fun _ h_ => h_.1))) hb); have n2_ := Aside0.mk (Kd.R_below (by (with_reducible repeat (first | apply Kd.R_alloc | apply Kd.R_drewN | apply Kd.R_drew)); exact (Kd.R_mono (Kd.R_far (p := ⟨gb303, 3, none⟩) (Kd.R_far (p := ⟨gb303, 2, none⟩) (Kd.R_far (p := ⟨gb303, 1, none⟩) (Kd.R_far (p := ⟨gb303, 0, none⟩) (Kd.R_types HO298.out BK303.out (by decide)) (fun _ hk => hk.2) (.int .i64 t294)) (fun _ hk => hk.2) (.int .i64 t295)) (fun _ hk => hk.2) (.slice Aox2i0 t296.length cox2i0)) (fun _ hk => hk.2) (.int .i64 t299)) (fun _ h_ => h_.1))) hb); have n3_ := Aside0.mk (Kd.R_lower ho54 (below_size (by repeat (first | (with_reducible first | exact HB.out | apply below_alloc | apply pw_below_drewN | apply below_drew1 | refine below_set ?_ GE290.out | refine below_set ?_ GE303.out) | exact HB.out)))); have n4_ := Aside0.mk (blk_below (g := gb290) (o := .cells #[.int .i64 0, .int .i64 0, .slice Aox11i0 y287.length cox11i0, .int .i64 0] 26 (0, 0)) (by (with_reducible repeat (first | refine blk_drewN ?_ _ | refine blk_drew ?_ | refine blk_alloc ?_ _)); refine blk_far ?_ NB290_303.out _; (with_reducible repeat (first | refine blk_drewN ?_ _ | refine blk_drew ?_ | refine blk_alloc ?_ _)); refine blk_far ?_ NB290_303.out _; (with_reducible repeat (first | refine blk_drewN ?_ _ | refine blk_drew ?_ | refine blk_alloc ?_ _)); refine blk_far ?_ NB290_303.out _; (with_reducible repeat (first | refine blk_drewN ?_ _ | refine blk_drew ?_ | refine blk_alloc ?_ _)); refine blk_far ?_ NB290_303.out _; (with_reducible repeat (first | refine blk_drewN ?_ _ | refine blk_drew ?_ | refine blk_alloc ?_ _)); exact BK290.out) hb); have n5_ := Aside0.mk (blk_below (g := gb303) (o := .cells #[.int .i64 t294, .int .i64 t295, .slice Aox2i0 t296.length cox2i0, .int .i64 t299] 26 (0, 0)) (by (with_reducible repeat (first | refine blk_drewN ?_ _ | refine blk_drew ?_ | refine blk_alloc ?_ _)); refine blk_put (cs := #[.int .i64 t294, .int .i64 t295, .slice Aox2i0 t296.length cox2i0, .int .i64 0]) ?_ 3 _ rfl; (with_reducible repeat (first | refine blk_drewN ?_ _ | refine blk_drew ?_ | refine blk_alloc ?_ _)); refine blk_put (cs := #[.int .i64 t294, .int .i64 t295, .slice none 0 0, .int .i64 0]) ?_ 2 _ rfl; (with_reducible repeat (first | refine blk_drewN ?_ _ | refine blk_drew ?_ | refine blk_alloc ?_ _)); refine blk_put (cs := #[.int .i64 t294, .int .i64 0, .slice none 0 0, .int .i64 0]) ?_ 1 _ rfl; (with_reducible repeat (first | refine blk_drewN ?_ _ | refine blk_drew ?_ | refine blk_alloc ?_ _)); refine blk_put (cs := #[.int .i64 0, .int .i64 0, .slice none 0 0, .int .i64 0]) ?_ 0 _ rfl; (with_reducible repeat (first | refine blk_drewN ?_ _ | refine blk_drew ?_ | refine blk_alloc ?_ _)); exact BK303.out) hb); have n6_ := Aside0.mk (below_step (by repeat (first | (with_reducible first | exact HB.out | apply below_alloc | apply pw_below_drewN | apply below_drew1 | refine below_set ?_ GE290.out | refine below_set ?_ GE303.out) | exact HB.out)) hb); clear HO289; clear HO293; clear HO298; clear BK290; clear BK303; clear HB; have HO289 := n0_; have HO293 := n1_; have HO298 := n2_; have HO306 := n3_; have BK290 := n4_; have BK303 := n5_; have HB := n6_; clear n0_ n1_ n2_ n3_ n4_ n5_ n6_; clear hb ho54; obtain ⟨Aox25i0, cox25i0, eox25i0⟩ := Kd.R_slice HO306.out; subst eox25i0) | ((with_reducible refine gate_dst (N := 25) rfl ?_); (try (refine gate_guard (by rfl) ?_; dsimp only)); refine Kd.R_lit (Kd.int .i64) _ 3 ?hg (N := 25) ?hd (xs := ([3, 3, 1] : List Int)) (inner := [.int .i64 3, .int .i64 3, .int .i64 1]) (ok := fun _ => True) (okp := fun _ => True) ?hr ?hp (fun _ hk => hk) trivial (Below.refl _ _) (Nat.le_refl _) (by simp) ?_; (case hd => rfl); (case hg => rfl); (case hr => first | (go_simp; done) | (go_simp; rfl)); (case hp => exact (Reps.one (show Kd.M (Kd.int .i64) _ _ _ 3 [.int .i64 3] from rfl) (Reps.one (show Kd.M (Kd.int .i64) _ _ _ 3 [.int .i64 3] from rfl) (Reps.one (show Kd.M (Kd.int .i64) _ _ _ 1 [.int .i64 1] from rfl) (Reps.none _ _))))); intro v305 wx25i0 ho78 hb hg_ hnew_; clear hg_ hnew_; (first | rw [← Ny304.out] at ho78 | (simp only [Int.reduceToNat] at ho78; rw [← Ny304.out] at ho78)); have n0_ := Aside0.mk (Kd.R_below (by (with_reducible repeat (first | apply Kd.R_alloc | apply Kd.R_drewN | apply Kd.R_drew)); exact (Kd.R_mono (Kd.R_far (p := ⟨gb303, 3, none⟩) (Kd.R_far (p := ⟨gb303, 2, none⟩) (Kd.R_far (p := ⟨gb303, 1, none⟩) (Kd.R_far (p := ⟨gb303, 0, none⟩) (Kd.R_types HO289.out BK303.out (by decide)) (fun _ hk => hk.2) (.int .i64 t294)) (fun _ hk => hk.2) (.int .i64 t295)) (fun _ hk => hk.2) (.slice Aox2i0 t296.length cox2i0)) (fun _ hk => hk.2) (.int .i64 t299)) (fun _ h_ => h_.1))) hb); have n1_ := Aside0.mk (Kd.R_below (by (with_reducible repeat (first | apply Kd.R_alloc | apply Kd.R_drewN | apply Kd.R_drew)); exact (Kd.R_mono (Kd.R_far (p := ⟨gb303, 3, none⟩) (Kd.R_far (p := ⟨gb303, 2, none⟩) (Kd.R_far (p := ⟨gb303, 1, none⟩) (Kd.R_far (p := ⟨gb303, 0, none⟩) (Kd.R_types HO293.out BK303.out (by decide)) (fun _ hk => hk.2) (.int .i64 t294)) (fun _ hk => hk.2) (.int .i64 t295)) (fun _ hk => hk.2) (.slice Aox2i0 t296.length cox2i0)) (fun _ hk => hk.2) (.int .i64 t299)) (fun _ h_ => h_.1))) hb); have n2_ := Aside0.mk (Kd.R_below (by (with_reducible repeat (first | apply Kd.R_alloc | apply Kd.R_drewN | apply Kd.R_drew)); exact (Kd.R_mono (Kd.R_far (p := ⟨gb303, 3, none⟩) (Kd.R_far (p := ⟨gb303, 2, none⟩) (Kd.R_far (p := ⟨gb303, 1, none⟩) (Kd.R_far (p := ⟨gb303, 0, none⟩) (Kd.R_types HO298.out BK303.out (by decide)) (fun _ hk => hk.2) (.int .i64 t294)) (fun _ hk => hk.2) (.int .i64 t295)) (fun _ hk => hk.2) (.slice Aox2i0 t296.length cox2i0)) (fun _ hk => hk.2) (.int .i64 t299)) (fun _ h_ => h_.1))) hb); have n3_ := Aside0.mk (Kd.R_lower ho78 (below_size (by repeat (first | (with_reducible first | exact HB.out | apply below_alloc | apply pw_below_drewN | apply below_drew1 | refine below_set ?_ GE290.out | refine below_set ?_ GE303.out) | exact HB.out)))); have n4_ := Aside0.mk (blk_below (g := gb290) (o := .cells #[.int .i64 0, .int .i64 0, .slice Aox11i0 y287.length cox11i0, .int .i64 0] 26 (0, 0)) (by (with_reducible repeat (first | refine blk_drewN ?_ _ | refine blk_drew ?_ | refine blk_alloc ?_ _)); refine blk_far ?_ NB290_303.out _; (with_reducible repeat (first | refine blk_drewN ?_ _ | refine blk_drew ?_ | refine blk_alloc ?_ _)); refine blk_far ?_ NB290_303.out _; (with_reducible repeat (first | refine blk_drewN ?_ _ | refine blk_drew ?_ | refine blk_alloc ?_ _)); refine blk_far ?_ NB290_303.out _; (with_reducible repeat (first | refine blk_drewN ?_ _ | refine blk_drew ?_ | refine blk_alloc ?_ _)); refine blk_far ?_ NB290_303.out _; (with_reducible repeat (first | refine blk_drewN ?_ _ | refine blk_drew ?_ | refine blk_alloc ?_ _)); exact BK290.out) hb); have n5_ := Aside0.mk (blk_below (g := gb303) (o := .cells #[.int .i64 t294, .int .i64 t295, .slice Aox2i0 t296.length cox2i0, .int .i64 t299] 26 (0, 0)) (by (with_reducible repeat (first | refine blk_drewN ?_ _ | refine blk_drew ?_ | refine blk_alloc ?_ _)); refine blk_put (cs := #[.int .i64 t294, .int .i64 t295, .slice Aox2i0 t296.length cox2i0, .int .i64 0]) ?_ 3 _ rfl; (with_reducible repeat (first | refine blk_drewN ?_ _ | refine blk_drew ?_ | refine blk_alloc ?_ _)); refine blk_put (cs := #[.int .i64 t294, .int .i64 t295, .slice none 0 0, .int .i64 0]) ?_ 2 _ rfl; (with_reducible repeat (first | refine blk_drewN ?_ _ | refine blk_drew ?_ | refine blk_alloc ?_ _)); refine blk_put (cs := #[.int .i64 t294, .int .i64 0, .slice none 0 0, .int .i64 0]) ?_ 1 _ rfl; (with_reducible repeat (first | refine blk_drewN ?_ _ | refine blk_drew ?_ | refine blk_alloc ?_ _)); refine blk_put (cs := #[.int .i64 0, .int .i64 0, .slice none 0 0, .int .i64 0]) ?_ 0 _ rfl; (with_reducible repeat (first | refine blk_drewN ?_ _ | refine blk_drew ?_ | refine blk_alloc ?_ _)); exact BK303.out) hb); have n6_ := Aside0.mk (below_step (by repeat (first | (with_reducible first | exact HB.out | apply below_alloc | apply pw_below_drewN | apply below_drew1 | refine below_set ?_ GE290.out | refine below_set ?_ GE303.out) | exact HB.out)) hb); clear HO289; clear HO293; clear HO298; clear BK290; clear BK303; clear HB; have HO289 := n0_; have HO293 := n1_; have HO298 := n2_; have HO306 := n3_; have BK290 := n4_; have BK303 := n5_; have HB := n6_; clear n0_ n1_ n2_ n3_ n4_ n5_ n6_; clear hb ho78; obtain ⟨Aox25i0, cox25i0, eox25i0⟩ := Kd.R_slice HO306.out; subst eox25i0) | ((with_reducible refine gate_dst (N := 25) rfl ?_); (try (refine gate_guard (by rfl) ?_; dsimp only)); refine Kd.R_lit (Kd.int .i64) _ 3 ?hg (N := 25) ?hd (xs := ([3, 3, 1] : List Int)) (inner := [.int .i64 3, .int .i64 3, .int .i64 1]) (ok := fun _ => True) (okp := fun _ => True) ?hr ?hp (fun _ hk => hk) trivial (Below.refl _ _) (Nat.le_refl _) (by simp) ?_; (case hd => rfl); (case hg => rfl); (case hr => first | (go_simp; done) | (go_simp; rfl)); (case hp => exact (Reps.one (show Kd.M (Kd.int .i64) _ _ _ 3 [.int .i64 3] from rfl) (Reps.one (show Kd.M (Kd.int .i64) _ _ _ 3 [.int .i64 3] from rfl) (Reps.one (show Kd.M (Kd.int .i64) _ _ _ 1 [.int .i64 1] from rfl) (Reps.none _ _))))); intro v305 wx25i0 ho102 hb hg_ hnew_; clear hg_ hnew_; (first | rw [← Ny304.out] at ho102 | (simp only [Int.reduceToNat] at ho102; rw [← Ny304.out] at ho102)); have n0_ := Aside0.mk (Kd.R_below (by (with_reducible repeat (first | apply Kd.R_alloc | apply Kd.R_drewN | apply Kd.R_drew)); exact (Kd.R_mono (Kd.R_far (p := ⟨gb303, 3, none⟩) (Kd.R_far (p := ⟨gb303, 2, none⟩) (Kd.R_far (p := ⟨gb303, 1, none⟩) (Kd.R_far (p := ⟨gb303, 0, none⟩) (Kd.R_types HO289.out BK303.out (by decide)) (fun _ hk => hk.2) (.int .i64 t294)) (fun _ hk => hk.2) (.int .i64 t295)) (fun _ hk => hk.2) (.slice Aox2i0 t296.length cox2i0)) (fun _ hk => hk.2) (.int .i64 t299)) (fun _ h_ => h_.1))) hb); have n1_ := Aside0.mk (Kd.R_below (by (with_reducible repeat (first | apply Kd.R_alloc | apply Kd.R_drewN | apply Kd.R_drew)); exact (Kd.R_mono (Kd.R_far (p := ⟨gb303, 3, none⟩) (Kd.R_far (p := ⟨gb303, 2, none⟩) (Kd.R_far (p := ⟨gb303, 1, none⟩) (Kd.R_far (p := ⟨gb303, 0, none⟩) (Kd.R_types HO293.out BK303.out (by decide)) (fun _ hk => hk.2) (.int .i64 t294)) (fun _ hk => hk.2) (.int .i64 t295)) (fun _ hk => hk.2) (.slice Aox2i0 t296.length cox2i0)) (fun _ hk => hk.2) (.int .i64 t299)) (fun _ h_ => h_.1))) hb); have n2_ := Aside0.mk (Kd.R_below (by (with_reducible repeat (first | apply Kd.R_alloc | apply Kd.R_drewN | apply Kd.R_drew)); exact (Kd.R_mono (Kd.R_far (p := ⟨gb303, 3, none⟩) (Kd.R_far (p := ⟨gb303, 2, none⟩) (Kd.R_far (p := ⟨gb303, 1, none⟩) (Kd.R_far (p := ⟨gb303, 0, none⟩) (Kd.R_types HO298.out BK303.out (by decide)) (fun _ hk => hk.2) (.int .i64 t294)) (fun _ hk => hk.2) (.int .i64 t295)) (fun _ hk => hk.2) (.slice Aox2i0 t296.length cox2i0)) (fun _ hk => hk.2) (.int .i64 t299)) (fun _ h_ => h_.1))) hb); have n3_ := Aside0.mk (Kd.R_lower ho102 (below_size (by repeat (first | (with_reducible first | exact HB.out | apply below_alloc | apply pw_below_drewN | apply below_drew1 | refine below_set ?_ GE290.out | refine below_set ?_ GE303.out) | exact HB.out)))); have n4_ := Aside0.mk (blk_below (g := gb290) (o := .cells #[.int .i64 0, .int .i64 0, .slice Aox11i0 y287.length cox11i0, .int .i64 0] 26 (0, 0)) (by (with_reducible repeat (first | refine blk_drewN ?_ _ | refine blk_drew ?_ | refine blk_alloc ?_ _)); refine blk_far ?_ NB290_303.out _; (with_reducible repeat (first | refine blk_drewN ?_ _ | refine blk_drew ?_ | refine blk_alloc ?_ _)); refine blk_far ?_ NB290_303.out _; (with_reducible repeat (first | refine blk_drewN ?_ _ | refine blk_drew ?_ | refine blk_alloc ?_ _)); refine blk_far ?_ NB290_303.out _; (with_reducible repeat (first | refine blk_drewN ?_ _ | refine blk_drew ?_ | refine blk_alloc ?_ _)); refine blk_far ?_ NB290_303.out _; (with_reducible repeat (first | refine blk_drewN ?_ _ | refine blk_drew ?_ | refine blk_alloc ?_ _)); exact BK290.out) hb); have n5_ := Aside0.mk (blk_below (g := gb303) (o := .cells #[.int .i64 t294, .int .i64 t295, .slice Aox2i0 t296.length cox2i0, .int .i64 t299] 26 (0, 0)) (by (with_reducible repeat (first | refine blk_drewN ?_ _ | refine blk_drew ?_ | refine blk_alloc ?_ _)); refine blk_put (cs := #[.int .i64 t294, .int .i64 t295, .slice Aox2i0 t296.length cox2i0, .int .i64 0]) ?_ 3 _ rfl; (with_reducible repeat (first | refine blk_drewN ?_ _ | refine blk_drew ?_ | refine blk_alloc ?_ _)); refine blk_put (cs := #[.int .i64 t294, .int .i64 t295, .slice none 0 0, .int .i64 0]) ?_ 2 _ rfl; (with_reducible repeat (first | refine blk_drewN ?_ _ | refine blk_drew ?_ | refine blk_alloc ?_ _)); refine blk_put (cs := #[.int .i64 t294, .int .i64 0, .slice none 0 0, .int .i64 0]) ?_ 1 _ rfl; (with_reducible repeat (first | refine blk_drewN ?_ _ | refine blk_drew ?_ | refine blk_alloc ?_ _)); refine blk_put (cs := #[.int .i64 0, .int .i64 0, .slice none 0 0, .int .i64 0]) ?_ 0 _ rfl; (with_reducible repeat (first | refine blk_drewN ?_ _ | refine blk_drew ?_ | refine blk_alloc ?_ _)); exact BK303.out) hb); have n6_ := Aside0.mk (below_step (by repeat (first | (with_reducible first | exact HB.out | apply below_alloc | apply pw_below_drewN | apply below_drew1 | refine below_set ?_ GE290.out | refine below_set ?_ GE303.out) | exact HB.out)) hb); clear HO289; clear HO293; clear HO298; clear BK290; clear BK303; clear HB; have HO289 := n0_; have HO293 := n1_; have HO298 := n2_; have HO306 := n3_; have BK290 := n4_; have BK303 := n5_; have HB := n6_; clear n0_ n1_ n2_ n3_ n4_ n5_ n6_; clear hb ho102; obtain ⟨Aox25i0, cox25i0, eox25i0⟩ := Kd.R_slice HO306.out; subst eox25i0) | ((with_reducible refine gate_callee (f := 25) rfl ?_); refine goesL_ (some 26) rfl rfl Try.func25 (by kernel_rfl) rfl #[.agg #[.int .i64 0, .int .i64 0, .slice Aox11i0 y287.length cox11i0, .int .i64 0], .int .i64 2, .slice Aox25i0 y304.length cox25i0] rfl (by (try simp only [List.map_toArray, List.map_cons, List.map_nil]); first | done | rfl | (simp only [List.length_drop, List.length_take]; rfl)) ?_; (with_reducible refine (entries_Advance.calls k 0 0 _ _ y287 0 2 _ _ y304 t307 t308 t309 t312 t313 _ ?side1 ?side2 ?side3 ?side4 A2.out).mono ?_); (case side1 => repeat (first | exact (Kd.R_reads' HO289.out).2.2 | (with_reducible refine Kd.C_alloc ?_ _) | (with_reducible refine Kd.C_drewN ?_ _) | (with_reducible refine Kd.C_drew ?_))); (case side2 => exact (Kd.R_reads' HO289.out).2.1); (case side3 => repeat (first | exact (Kd.R_reads' HO306.out).2.2 | (with_reducible refine Kd.C_alloc ?_ _) | (with_reducible refine Kd.C_drewN ?_ _) | (with_reducible refine Kd.C_drew ?_))); (case side4 => exact (Kd.R_reads' HO306.out).2.1); rintro e wx26i0 ⟨v310, rfl, ho0, hb⟩; refine ⟨_, rfl, ?_⟩; have n0_ := Aside0.mk (Kd.R_elder' (by (with_reducible repeat (first | apply Kd.R_alloc | apply Kd.R_drewN | apply Kd.R_drew)); exact HO289.out) (Kd.R_base ho0) hb); have n1_ := Aside0.mk (Kd.R_elder' (by (with_reducible repeat (first | apply Kd.R_alloc | apply Kd.R_drewN | apply Kd.R_drew)); exact HO293.out) (Kd.R_base ho0) hb); have n2_ := Aside0.mk (Kd.R_elder' (by (with_reducible repeat (first | apply Kd.R_alloc | apply Kd.R_drewN | apply Kd.R_drew)); exact HO298.out) (Kd.R_base ho0) hb); have n3_ := Aside0.mk (Kd.R_below (by (with_reducible repeat (first | apply Kd.R_alloc | apply Kd.R_drewN | apply Kd.R_drew)); exact HO306.out) hb); have n4_ := Aside0.mk (Kd.R_lower (Kd.R_new' (Kd.R_new' (Kd.R_new' ho0 (Kd.R_lt (by (with_reducible repeat (first | apply Kd.R_alloc | apply Kd.R_drewN | apply Kd.R_drew)); exact HO289.out))) (Kd.R_lt (by (with_reducible repeat (first | apply Kd.R_alloc | apply Kd.R_drewN | apply Kd.R_drew)); exact HO293.out))) (Kd.R_lt (by (with_reducible repeat (first | apply Kd.R_alloc | apply Kd.R_drewN | apply Kd.R_drew)); exact HO298.out))) (below_size (by repeat (first | (with_reducible first | exact HB.out | apply below_alloc | apply pw_below_drewN | apply below_drew1 | refine below_set ?_ GE290.out | refine below_set ?_ GE303.out) | exact HB.out)))); have n5_ := Aside0.mk (blk_below (g := gb290) (o := .cells #[.int .i64 0, .int .i64 0, .slice Aox11i0 y287.length cox11i0, .int .i64 0] 26 (0, 0)) (by (with_reducible repeat (first | refine blk_drewN ?_ _ | refine blk_drew ?_ | refine blk_alloc ?_ _)); exact BK290.out) hb); have n6_ := Aside0.mk (blk_below (g := gb303) (o := .cells #[.int .i64 t294, .int .i64 t295, .slice Aox2i0 t296.length cox2i0, .int .i64 t299] 26 (0, 0)) (by (with_reducible repeat (first | refine blk_drewN ?_ _ | refine blk_drew ?_ | refine blk_alloc ?_ _)); exact BK303.out) hb); have n7_ := Aside0.mk (below_step (by repeat (first | (with_reducible first | exact HB.out | apply below_alloc | apply pw_below_drewN | apply below_drew1 | refine below_set ?_ GE290.out | refine below_set ?_ GE303.out) | exact HB.out)) hb); clear HO289; clear HO293; clear HO298; clear HO306; clear BK290; clear BK303; clear HB; have HO289 := n0_; have HO293 := n1_; have HO298 := n2_; have HO306 := n3_; have HO311 := n4_; have BK290 := n5_; have BK303 := n6_; have HB := n7_; clear n0_ n1_ n2_ n3_ n4_ n5_ n6_ n7_; (try clear hb); (try clear hb2); (try clear hk); (try clear hi); (try clear ho0)) | ((with_reducible refine gate_dst (N := 6) rfl ?_); (try (refine gate_guard (by rfl) ?_; dsimp only)); refine box_event ?hg (N := 6) ?hd (cs := #[.int .i64 0, .int .i64 0, .slice none 0 0, .int .i64 0]) (t := 26) ?hr ?_; (case hd => rfl); (case hg => rfl); (case hr => first | (go_simp; done) | (go_simp; rfl)); intro gb314 hg wx6i0 hbox hb; have n0_ := Aside0.mk (Kd.R_below (by (with_reducible repeat (first | apply Kd.R_alloc | apply Kd.R_drewN | apply Kd.R_drew)); exact HO289.out) hb); have n1_ := Aside0.mk (Kd.R_below (by (with_reducible repeat (first | apply Kd.R_alloc | apply Kd.R_drewN | apply Kd.R_drew)); exact HO293.out) hb); have n2_ := Aside0.mk (Kd.R_below (by (with_reducible repeat (first | apply Kd.R_alloc | apply Kd.R_drewN | apply Kd.R_drew)); exact HO298.out) hb); have n3_ := Aside0.mk (Kd.R_below (by (with_reducible repeat (first | apply Kd.R_alloc | apply Kd.R_drewN | apply Kd.R_drew)); exact HO306.out) hb); have n4_ := Aside0.mk (Kd.R_below (by (with_reducible repeat (first | apply Kd.R_alloc | apply Kd.R_drewN | apply Kd.R_drew)); exact HO311.out) hb); have n5_ := Aside0.mk (blk_below (g := gb290) (o := .cells #[.int .i64 0, .int .i64 0, .slice Aox11i0 y287.length cox11i0, .int .i64 0] 26 (0, 0)) (by (with_reducible repeat (first | refine blk_drewN ?_ _ | refine blk_drew ?_ | refine blk_alloc ?_ _)); exact BK290.out) hb); have n6_ := Aside0.mk (blk_below (g := gb303) (o := .cells #[.int .i64 t294, .int .i64 t295, .slice Aox2i0 t296.length cox2i0, .int .i64 t299] 26 (0, 0)) (by (with_reducible repeat (first | refine blk_drewN ?_ _ | refine blk_drew ?_ | refine blk_alloc ?_ _)); exact BK303.out) hb); have n7_ := Aside0.mk (below_step (by repeat (first | (with_reducible first | exact HB.out | apply below_alloc | apply pw_below_drewN | apply below_drew1 | refine below_set ?_ GE290.out | refine below_set ?_ GE303.out) | exact HB.out)) hb); have n8_ := Aside0.mk (hbox); have n9_ := Aside0.mk ((by rw [hg]; exact (below_size (by repeat (first | (with_reducible first | exact HB.out | apply below_alloc | apply pw_below_drewN | apply below_drew1 | refine below_set ?_ GE290.out | refine below_set ?_ GE303.out) | exact HB.out))) : w.heap.size ≤ gb314)); have n10_ := Aside0.mk ((by rw [hg]; exact (below_size (by repeat (first | (with_reducible first | exact HB.out | apply below_alloc | apply pw_below_drewN | apply below_drew1 | refine below_set ?_ GE290.out | refine below_set ?_ GE303.out) | exact HB.out))) : w.heap.size ≤ gb314)); have n11_ := Aside0.mk ((by rw [hg]; exact Nat.ne_of_lt (blk_lt (g := gb290) (o := .cells #[.int .i64 0, .int .i64 0, .slice Aox11i0 y287.length cox11i0, .int .i64 0] 26 (0, 0)) (by (with_reducible repeat (first | refine blk_drewN ?_ _ | refine blk_drew ?_ | refine blk_alloc ?_ _)); exact BK290.out)) : gb290 ≠ gb314)); have n12_ := Aside0.mk ((by rw [hg]; exact Nat.ne_of_gt (blk_lt (g := gb290) (o := .cells #[.int .i64 0, .int .i64 0, .slice Aox11i0 y287.length cox11i0, .int .i64 0] 26 (0, 0)) (by (with_reducible repeat (first | refine blk_drewN ?_ _ | refine blk_drew ?_ | refine blk_alloc ?_ _)); exact BK290.out)) : gb314 ≠ gb290)); have n13_ := Aside0.mk ((by rw [hg]; exact Nat.ne_of_lt (blk_lt (g := gb303) (o := .cells #[.int .i64 t294, .int .i64 t295, .slice Aox2i0 t296.length cox2i0, .int .i64 t299] 26 (0, 0)) (by (with_reducible repeat (first | refine blk_drewN ?_ _ | refine blk_drew ?_ | refine blk_alloc ?_ _)); exact BK303.out)) : gb303 ≠ gb314)); have n14_ := Aside0.mk ((by rw [hg]; exact Nat.ne_of_gt (blk_lt (g := gb303) (o := .cells #[.int .i64 t294, .int .i64 t295, .slice Aox2i0 t296.length cox2i0, .int .i64 t299] 26 (0, 0)) (by (with_reducible repeat (first | refine blk_drewN ?_ _ | refine blk_drew ?_ | refine blk_alloc ?_ _)); exact BK303.out)) : gb314 ≠ gb303)); clear HO289; clear HO293; clear HO298; clear HO306; clear HO311; clear BK290; clear BK303; clear HB; have HO289 := n0_; have HO293 := n1_; have HO298 := n2_; have HO306 := n3_; have HO311 := n4_; have BK290 := n5_; have BK303 := n6_; have HB := n7_; have BK314 := n8_; have GW314 := n9_; have GE314 := n10_; have NB290_314 := n11_; have NB314_290 := n12_; have NB303_314 := n13_; have NB314_303 := n14_; clear n0_ n1_ n2_ n3_ n4_ n5_ n6_ n7_ n8_ n9_ n10_ n11_ n12_ n13_ n14_; clear hb hbox hg; have hnbx6b314_290 := NB314_290.out; have hncx6b290_314 := NB290_314.out; have hnbx6b314_303 := NB314_303.out; have hncx6b303_314 := NB303_314.out; have hczx6b314_0 : wx6i0.cell? ⟨gb314, 0, none⟩ = some (.int .i64 0) := (blk_cell BK314.out 0).trans rfl; have hczx6b314_1 : wx6i0.cell? ⟨gb314, 1, none⟩ = some (.int .i64 0) := (blk_cell BK314.out 1).trans rfl; have hczx6b314_2 : wx6i0.cell? ⟨gb314, 2, none⟩ = some (.slice none 0 0) := (blk_cell BK314.out 2).trans rfl; have hczx6b314_3 : wx6i0.cell? ⟨gb314, 3, none⟩ = some (.int .i64 0) := (blk_cell BK314.out 3).trans rfl; have hfzx6b314_0 := blk_frozen BK314.out 0; have hfzx6b314_1 := blk_frozen BK314.out 1; have hfzx6b314_2 := blk_frozen BK314.out 2; have hfzx6b314_3 := blk_frozen BK314.out 3; obtain ⟨Aox6i0, cox6i0, eox6i0⟩ := Kd.R_slice HO311.out; subst eox6i0; have hczx6b303_0 : wx6i0.cell? ⟨gb303, 0, none⟩ = some (.int .i64 t294) := (blk_cell BK303.out 0).trans rfl; have hczx6b303_1 : wx6i0.cell? ⟨gb303, 1, none⟩ = some (.int .i64 t295) := (blk_cell BK303.out 1).trans rfl; have hczx6b303_2 : wx6i0.cell? ⟨gb303, 2, none⟩ = some (.slice Aox2i0 t296.length cox2i0) := (blk_cell BK303.out 2).trans rfl; have hczx6b303_3 : wx6i0.cell? ⟨gb303, 3, none⟩ = some (.int .i64 t299) := (blk_cell BK303.out 3).trans rfl; have hfzx6b303_0 := blk_frozen BK303.out 0; have hfzx6b303_1 := blk_frozen BK303.out 1; have hfzx6b303_2 := blk_frozen BK303.out 2; have hfzx6b303_3 := blk_frozen BK303.out 3; have p315 : 0 ≤ (2 : Int) := (by omega); have q315 : 2 < (t296.length : Int) := of_decide_eq_true (by first | (with_reducible assumption) | assumption); obtain ⟨ad315, e315, hx315_0, hx315_1, hx315_2⟩ := at_T33 (Kd.R_reads' HO298.out).2.2 2 p315 q315; cases e315; (try simp only [show (2 : Int).toNat = 2 from rfl, Nat.reduceMul, Nat.reduceEqDiff, Go.Addr.add, ↓reduceIte] at hx315_0); (try simp only [show (2 : Int).toNat = 2 from rfl, Nat.reduceMul, Nat.reduceEqDiff, Go.Addr.add, ↓reduceIte] at hx315_1); (try simp only [show (2 : Int).toNat = 2 from rfl, Nat.reduceMul, Nat.reduceEqDiff, Go.Addr.add, ↓reduceIte] at hx315_2); have qi315 : (2 < t296.length) = True := eq_true (by omega); (try rw [show ((2 : Int)).toNat = 2 from rfl] at hx315_0); (try rw [show 2 * 3 = 6 from rfl] at hx315_0); (try rw [show ((2 : Int)).toNat = 2 from rfl] at hx315_1); (try rw [show 2 * 3 = 6 from rfl] at hx315_1); (try rw [show ((2 : Int)).toNat = 2 from rfl] at hx315_2); (try rw [show 2 * 3 = 6 from rfl] at hx315_2); have hn315_0 : ad315.block ≠ gb314 := Kd.own_blk (Kd.R_ne HO298.out BK314.out (by decide)); have hn315_1 : ad315.block ≠ gb314 := Kd.own_blk (Kd.R_ne HO298.out BK314.out (by decide)); have hn315_2 : ad315.block ≠ gb314 := Kd.own_blk (Kd.R_ne HO298.out BK314.out (by decide)); have hn315_3 : ad315.block ≠ gb314 := Kd.own_blk (Kd.R_ne HO298.out BK314.out (by decide)); replace hx315_0 := (cell_far (p := ⟨gb314, 0, none⟩) (by first | (rw [add_block]; exact hn315_0) | (show (Addr.add _ _).block ≠ _; rw [add_block]; exact hn315_0) | exact hn315_0) (.int .i64 t307)).trans hx315_0; replace hx315_1 := (cell_far (p := ⟨gb314, 0, none⟩) (by first | (rw [add_block]; exact hn315_0) | (show (Addr.add _ _).block ≠ _; rw [add_block]; exact hn315_0) | exact hn315_0) (.int .i64 t307)).trans hx315_1; replace hx315_2 := (cell_far (p := ⟨gb314, 0, none⟩) (by first | (rw [add_block]; exact hn315_0) | (show (Addr.add _ _).block ≠ _; rw [add_block]; exact hn315_0) | exact hn315_0) (.int .i64 t307)).trans hx315_2; replace hx315_0 := (cell_far (p := ⟨gb314, 1, none⟩) (by first | (rw [add_block]; exact hn315_1) | (show (Addr.add _ _).block ≠ _; rw [add_block]; exact hn315_1) | exact hn315_1) (.int .i64 t308)).trans hx315_0; replace hx315_1 := (cell_far (p := ⟨gb314, 1, none⟩) (by first | (rw [add_block]; exact hn315_1) | (show (Addr.add _ _).block ≠ _; rw [add_block]; exact hn315_1) | exact hn315_1) (.int .i64 t308)).trans hx315_1; replace hx315_2 := (cell_far (p := ⟨gb314, 1, none⟩) (by first | (rw [add_block]; exact hn315_1) | (show (Addr.add _ _).block ≠ _; rw [add_block]; exact hn315_1) | exact hn315_1) (.int .i64 t308)).trans hx315_2; replace hx315_0 := (cell_far (p := ⟨gb314, 2, none⟩) (by first | (rw [add_block]; exact hn315_2) | (show (Addr.add _ _).block ≠ _; rw [add_block]; exact hn315_2) | exact hn315_2) (.slice Aox6i0 t309.length cox6i0)).trans hx315_0; replace hx315_1 := (cell_far (p := ⟨gb314, 2, none⟩) (by first | (rw [add_block]; exact hn315_2) | (show (Addr.add _ _).block ≠ _; rw [add_block]; exact hn315_2) | exact hn315_2) (.slice Aox6i0 t309.length cox6i0)).trans hx315_1; replace hx315_2 := (cell_far (p := ⟨gb314, 2, none⟩) (by first | (rw [add_block]; exact hn315_2) | (show (Addr.add _ _).block ≠ _; rw [add_block]; exact hn315_2) | exact hn315_2) (.slice Aox6i0 t309.length cox6i0)).trans hx315_2; replace hx315_0 := (cell_far (p := ⟨gb314, 3, none⟩) (by first | (rw [add_block]; exact hn315_3) | (show (Addr.add _ _).block ≠ _; rw [add_block]; exact hn315_3) | exact hn315_3) (.int .i64 t312)).trans hx315_0; replace hx315_1 := (cell_far (p := ⟨gb314, 3, none⟩) (by first | (rw [add_block]; exact hn315_3) | (show (Addr.add _ _).block ≠ _; rw [add_block]; exact hn315_3) | exact hn315_3) (.int .i64 t312)).trans hx315_1; replace hx315_2 := (cell_far (p := ⟨gb314, 3, none⟩) (by first | (rw [add_block]; exact hn315_3) | (show (Addr.add _ _).block ≠ _; rw [add_block]; exact hn315_3) | exact hn315_3) (.int .i64 t312)).trans hx315_2; clear hn315_0; clear hn315_1; clear hn315_2; clear hn315_3; replace p315 := eq_true p315; replace q315 := eq_true q315; (try have hczx6b290_0 : wx6i0.cell? ⟨gb290, 0, none⟩ = some (.int .i64 0) := (blk_cell BK290.out 0).trans rfl); (try have hczx6b290_1 : wx6i0.cell? ⟨gb290, 1, none⟩ = some (.int .i64 0) := (blk_cell BK290.out 1).trans rfl); (try have hczx6b290_2 : wx6i0.cell? ⟨gb290, 2, none⟩ = some (.slice Aox11i0 y287.length cox11i0) := (blk_cell BK290.out 2).trans rfl); (try have hczx6b290_3 : wx6i0.cell? ⟨gb290, 3, none⟩ = some (.int .i64 0) := (blk_cell BK290.out 3).trans rfl); (try have hfzx6b290_0 := blk_frozen BK290.out 0); (try have hfzx6b290_1 := blk_frozen BK290.out 1); (try have hfzx6b290_2 := blk_frozen BK290.out 2); (try have hfzx6b290_3 := blk_frozen BK290.out 3)) | (go_at_call 32; (with_reducible refine (entries_Last.calls k 0 0 _ _ y287 0 t316 t317 _ ?side1 ?side2 A12.out).mono ?_); (case side1 => refine (Kd.R_reads' (e := 33) (base := w.heap.size) (ok := fun k_ => (((True ∧ some k_ ≠ (.slice Aox17i0 y291.length cox17i0 : Value).ownBlock) ∧ some k_ ≠ (.slice (some ad315) t296.length cox2i0 : Value).ownBlock) ∧ some k_ ≠ (.slice Aox6i0 t309.length cox6i0 : Value).ownBlock)) (n := y287.length) (c := cox11i0) ?_).2.2; exact (by (with_reducible repeat (first | apply Kd.R_alloc | apply Kd.R_drewN | apply Kd.R_drew)); exact (Kd.R_mono (Kd.R_far (p := ⟨gb314, 3, none⟩) (Kd.R_far (p := ⟨gb314, 2, none⟩) (Kd.R_far (p := ⟨gb314, 1, none⟩) (Kd.R_far (p := ⟨gb314, 0, none⟩) (Kd.R_types HO289.out BK314.out (by decide)) (fun _ hk => hk.2) (.int .i64 t307)) (fun _ hk => hk.2) (.int .i64 t308)) (fun _ hk => hk.2) (.slice Aox6i0 t309.length cox6i0)) (fun _ hk => hk.2) (.int .i64 t312)) (fun _ h_ => h_.1)))); (case side2 => exact (Kd.R_reads' HO289.out).2.1); rintro e wyi0 ⟨rfl, hb⟩; have n0_ := Aside0.mk (Kd.R_below (by (with_reducible repeat (first | apply Kd.R_alloc | apply Kd.R_drewN | apply Kd.R_drew)); exact (Kd.R_mono (Kd.R_far (p := ⟨gb314, 3, none⟩) (Kd.R_far (p := ⟨gb314, 2, none⟩) (Kd.R_far (p := ⟨gb314, 1, none⟩) (Kd.R_far (p := ⟨gb314, 0, none⟩) (Kd.R_types HO289.out BK314.out (by decide)) (fun _ hk => hk.2) (.int .i64 t307)) (fun _ hk => hk.2) (.int .i64 t308)) (fun _ hk => hk.2) (.slice Aox6i0 t309.length cox6i0)) (fun _ hk => hk.2) (.int .i64 t312)) (fun _ h_ => h_.1))) hb); have n1_ := Aside0.mk (Kd.R_below (by (with_reducible repeat (first | apply Kd.R_alloc | apply Kd.R_drewN | apply Kd.R_drew)); exact (Kd.R_mono (Kd.R_far (p := ⟨gb314, 3, none⟩) (Kd.R_far (p := ⟨gb314, 2, none⟩) (Kd.R_far (p := ⟨gb314, 1, none⟩) (Kd.R_far (p := ⟨gb314, 0, none⟩) (Kd.R_types HO293.out BK314.out (by decide)) (fun _ hk => hk.2) (.int .i64 t307)) (fun _ hk => hk.2) (.int .i64 t308)) (fun _ hk => hk.2) (.slice Aox6i0 t309.length cox6i0)) (fun _ hk => hk.2) (.int .i64 t312)) (fun _ h_ => h_.1))) hb); have n2_ := Aside0.mk (Kd.R_below (by (with_reducible repeat (first | apply Kd.R_alloc | apply Kd.R_drewN | apply Kd.R_drew)); exact (Kd.R_mono (Kd.R_far (p := ⟨gb314, 3, none⟩) (Kd.R_far (p := ⟨gb314, 2, none⟩) (Kd.R_far (p := ⟨gb314, 1, none⟩) (Kd.R_far (p := ⟨gb314, 0, none⟩) (Kd.R_types HO298.out BK314.out (by decide)) (fun _ hk => hk.2) (.int .i64 t307)) (fun _ hk => hk.2) (.int .i64 t308)) (fun _ hk => hk.2) (.slice Aox6i0 t309.length cox6i0)) (fun _ hk => hk.2) (.int .i64 t312)) (fun _ h_ => h_.1))) hb); have n3_ := Aside0.mk (Kd.R_below (by (with_reducible repeat (first | apply Kd.R_alloc | apply Kd.R_drewN | apply Kd.R_drew)); exact (Kd.R_mono (Kd.R_far (p := ⟨gb314, 3, none⟩) (Kd.R_far (p := ⟨gb314, 2, none⟩) (Kd.R_far (p := ⟨gb314, 1, none⟩) (Kd.R_far (p := ⟨gb314, 0, none⟩) (Kd.R_types HO306.out BK314.out (by decide)) (fun _ hk => hk.2) (.int .i64 t307)) (fun _ hk => hk.2) (.int .i64 t308)) (fun _ hk => hk.2) (.slice Aox6i0 t309.length cox6i0)) (fun _ hk => hk.2) (.int .i64 t312)) (fun _ h_ => h_.1))) hb); have n4_ := Aside0.mk (Kd.R_below (by (with_reducible repeat (first | apply Kd.R_alloc | apply Kd.R_drewN | apply Kd.R_drew)); exact (Kd.R_mono (Kd.R_far (p := ⟨gb314, 3, none⟩) (Kd.R_far (p := ⟨gb314, 2, none⟩) (Kd.R_far (p := ⟨gb314, 1, none⟩) (Kd.R_far (p := ⟨gb314, 0, none⟩) (Kd.R_types HO311.out BK314.out (by decide)) (fun _ hk => hk.2) (.int .i64 t307)) (fun _ hk => hk.2) (.int .i64 t308)) (fun _ hk => hk.2) (.slice Aox6i0 t309.length cox6i0)) (fun _ hk => hk.2) (.int .i64 t312)) (fun _ h_ => h_.1))) hb); have n5_ := Aside0.mk (blk_below (g := gb290) (o := .cells #[.int .i64 0, .int .i64 0, .slice Aox11i0 y287.length cox11i0, .int .i64 0] 26 (0, 0)) (by (with_reducible repeat (first | refine blk_drewN ?_ _ | refine blk_drew ?_ | refine blk_alloc ?_ _)); refine blk_far ?_ NB290_314.out _; (with_reducible repeat (first | refine blk_drewN ?_ _ | refine blk_drew ?_ | refine blk_alloc ?_ _)); refine blk_far ?_ NB290_314.out _; (with_reducible repeat (first | refine blk_drewN ?_ _ | refine blk_drew ?_ | refine blk_alloc ?_ _)); refine blk_far ?_ NB290_314.out _; (with_reducible repeat (first | refine blk_drewN ?_ _ | refine blk_drew ?_ | refine blk_alloc ?_ _)); refine blk_far ?_ NB290_314.out _; (with_reducible repeat (first | refine blk_drewN ?_ _ | refine blk_drew ?_ | refine blk_alloc ?_ _)); exact BK290.out) hb); have n6_ := Aside0.mk (blk_below (g := gb303) (o := .cells #[.int .i64 t294, .int .i64 t295, .slice (some ad315) t296.length cox2i0, .int .i64 t299] 26 (0, 0)) (by (with_reducible repeat (first | refine blk_drewN ?_ _ | refine blk_drew ?_ | refine blk_alloc ?_ _)); refine blk_far ?_ NB303_314.out _; (with_reducible repeat (first | refine blk_drewN ?_ _ | refine blk_drew ?_ | refine blk_alloc ?_ _)); refine blk_far ?_ NB303_314.out _; (with_reducible repeat (first | refine blk_drewN ?_ _ | refine blk_drew ?_ | refine blk_alloc ?_ _)); refine blk_far ?_ NB303_314.out _; (with_reducible repeat (first | refine blk_drewN ?_ _ | refine blk_drew ?_ | refine blk_alloc ?_ _)); refine blk_far ?_ NB303_314.out _; (with_reducible repeat (first | refine blk_drewN ?_ _ | refine blk_drew ?_ | refine blk_alloc ?_ _)); exact BK303.out) hb); have n7_ := Aside0.mk (blk_below (g := gb314) (o := .cells #[.int .i64 t307, .int .i64 t308, .slice Aox6i0 t309.length cox6i0, .int .i64 t312] 26 (0, 0)) (by (with_reducible repeat (first | refine blk_drewN ?_ _ | refine blk_drew ?_ | refine blk_alloc ?_ _)); refine blk_put (cs := #[.int .i64 t307, .int .i64 t308, .slice Aox6i0 t309.length cox6i0, .int .i64 0]) ?_ 3 _ rfl; (with_reducible repeat (first | refine blk_drewN ?_ _ | refine blk_drew ?_ | refine blk_alloc ?_ _)); refine blk_put (cs := #[.int .i64 t307, .int .i64 t308, .slice none 0 0, .int .i64 0]) ?_ 2 _ rfl; (with_reducible repeat (first | refine blk_drewN ?_ _ | refine blk_drew ?_ | refine blk_alloc ?_ _)); refine blk_put (cs := #[.int .i64 t307, .int .i64 0, .slice none 0 0, .int .i64 0]) ?_ 1 _ rfl; (with_reducible repeat (first | refine blk_drewN ?_ _ | refine blk_drew ?_ | refine blk_alloc ?_ _)); refine blk_put (cs := #[.int .i64 0, .int .i64 0, .slice none 0 0, .int .i64 0]) ?_ 0 _ rfl; (with_reducible repeat (first | refine blk_drewN ?_ _ | refine blk_drew ?_ | refine blk_alloc ?_ _)); exact BK314.out) hb); have n8_ := Aside0.mk (below_step (by repeat (first | (with_reducible first | exact HB.out | apply below_alloc | apply pw_below_drewN | apply below_drew1 | refine below_set ?_ GE290.out | refine below_set ?_ GE303.out | refine below_set ?_ GE314.out) | exact HB.out)) hb); clear HO289; clear HO293; clear HO298; clear HO306; clear HO311; clear BK290; clear BK303; clear BK314; clear HB; have HO289 := n0_; have HO293 := n1_; have HO298 := n2_; have HO306 := n3_; have HO311 := n4_; have BK290 := n5_; have BK303 := n6_; have BK314 := n7_; have HB := n8_; clear n0_ n1_ n2_ n3_ n4_ n5_ n6_ n7_ n8_; (try clear hb); (try clear hb2); (try clear hk); (try clear hi)))
      go_ret
      exact ⟨by first | rfl | (simp [errW_none, errW_some] <;> rfl) | (simp [*, errW_none, errW_some] <;> rfl), by repeat (first | (with_reducible first | exact HB.out | apply below_alloc | apply pw_below_drewN | apply below_drew1 | refine below_set ?_ GE290.out | refine below_set ?_ GE303.out | refine below_set ?_ GE314.out) | exact HB.out)⟩
  focus
    exact absurd H (by simp)
  iterate 5
    focus
      go_enter Try.func24, Try.ntmps24
      go_wp2_with (first | ((with_reducible refine gate_dst (N := 11) rfl ?_); (try (refine gate_guard (by rfl) ?_; dsimp only)); refine Kd.R_lit k33 _ 33 ?hg (N := 11) ?hd (xs := ([(⟨1, 1, (⟨#[]⟩ : ByteArray)⟩ : S33), (⟨1, 2, (⟨#[97]⟩ : ByteArray)⟩ : S33), (⟨2, 1, (⟨#[]⟩ : ByteArray)⟩ : S33)] : List (S33))) (inner := [.int .i64 1, .int .i64 1, .string (⟨#[]⟩ : ByteArray), .int .i64 1, .int .i64 2, .string (⟨#[97]⟩ : ByteArray), .int .i64 2, .int .i64 1, .string (⟨#[]⟩ : ByteArray)]) (ok := fun _ => True) (okp := fun _ => True) ?hr ?hp (fun _ hk => hk) trivial (Below.refl _ _) (Nat.le_refl _) (by simp) ?_; (case hd => rfl); (case hg => rfl); (case hr => first | (go_simp; done) | (go_simp; rfl)); (case hp => exact (Reps.c3 (show Kd.M k33 _ _ _ (⟨1, 1, (⟨#[]⟩ : ByteArray)⟩ : S33) [.int .i64 1, .int .i64 1, .string (⟨#[]⟩ : ByteArray)] from (k33_mkM _ _ _ (⟨1, 1, (⟨#[]⟩ : ByteArray)⟩ : S33) )) (Reps.c3 (show Kd.M k33 _ _ _ (⟨1, 2, (⟨#[97]⟩ : ByteArray)⟩ : S33) [.int .i64 1, .int .i64 2, .string (⟨#[97]⟩ : ByteArray)] from (k33_mkM _ _ _ (⟨1, 2, (⟨#[97]⟩ : ByteArray)⟩ : S33) )) (Reps.c3 (show Kd.M k33 _ _ _ (⟨2, 1, (⟨#[]⟩ : ByteArray)⟩ : S33) [.int .i64 2, .int .i64 1, .string (⟨#[]⟩ : ByteArray)] from (k33_mkM _ _ _ (⟨2, 1, (⟨#[]⟩ : ByteArray)⟩ : S33) )) (Reps.none _ _))))); intro v288 wx11i0 ho112 hb hg_ hnew_; clear hg_ hnew_; (first | rw [← Ny287.out] at ho112 | (simp only [Int.reduceToNat] at ho112; rw [← Ny287.out] at ho112)); have n0_ := Aside0.mk (Kd.R_lower ho112 (below_size (by repeat (first | (with_reducible first | exact HB.out | apply below_alloc | apply pw_below_drewN | apply below_drew1) | exact HB.out)))); have n1_ := Aside0.mk (below_step (by repeat (first | (with_reducible first | exact HB.out | apply below_alloc | apply pw_below_drewN | apply below_drew1) | exact HB.out)) hb); clear HB; have HO289 := n0_; have HB := n1_; clear n0_ n1_; clear hb ho112; obtain ⟨Aox11i0, cox11i0, eox11i0⟩ := Kd.R_slice HO289.out; subst eox11i0) | ((with_reducible refine gate_dst (N := 11) rfl ?_); (try (refine gate_guard (by rfl) ?_; dsimp only)); refine Kd.R_lit k33 _ 33 ?hg (N := 11) ?hd (xs := ([(⟨1, 1, (⟨#[]⟩ : ByteArray)⟩ : S33), (⟨1, 2, (⟨#[97]⟩ : ByteArray)⟩ : S33), (⟨2, 1, (⟨#[]⟩ : ByteArray)⟩ : S33)] : List (S33))) (inner := [.int .i64 1, .int .i64 1, .string (⟨#[]⟩ : ByteArray), .int .i64 1, .int .i64 2, .string (⟨#[97]⟩ : ByteArray), .int .i64 2, .int .i64 1, .string (⟨#[]⟩ : ByteArray)]) (ok := fun _ => True) (okp := fun _ => True) ?hr ?hp (fun _ hk => hk) trivial (Below.refl _ _) (Nat.le_refl _) (by simp) ?_; (case hd => rfl); (case hg => rfl); (case hr => first | (go_simp; done) | (go_simp; rfl)); (case hp => exact (Reps.c3 (show Kd.M k33 _ _ _ (⟨1, 1, (⟨#[]⟩ : ByteArray)⟩ : S33) [.int .i64 1, .int .i64 1, .string (⟨#[]⟩ : ByteArray)] from (k33_mkM _ _ _ (⟨1, 1, (⟨#[]⟩ : ByteArray)⟩ : S33) )) (Reps.c3 (show Kd.M k33 _ _ _ (⟨1, 2, (⟨#[97]⟩ : ByteArray)⟩ : S33) [.int .i64 1, .int .i64 2, .string (⟨#[97]⟩ : ByteArray)] from (k33_mkM _ _ _ (⟨1, 2, (⟨#[97]⟩ : ByteArray)⟩ : S33) )) (Reps.c3 (show Kd.M k33 _ _ _ (⟨2, 1, (⟨#[]⟩ : ByteArray)⟩ : S33) [.int .i64 2, .int .i64 1, .string (⟨#[]⟩ : ByteArray)] from (k33_mkM _ _ _ (⟨2, 1, (⟨#[]⟩ : ByteArray)⟩ : S33) )) (Reps.none _ _))))); intro v288 wx11i0 ho136 hb hg_ hnew_; clear hg_ hnew_; (first | rw [← Ny287.out] at ho136 | (simp only [Int.reduceToNat] at ho136; rw [← Ny287.out] at ho136)); have n0_ := Aside0.mk (Kd.R_lower ho136 (below_size (by repeat (first | (with_reducible first | exact HB.out | apply below_alloc | apply pw_below_drewN | apply below_drew1) | exact HB.out)))); have n1_ := Aside0.mk (below_step (by repeat (first | (with_reducible first | exact HB.out | apply below_alloc | apply pw_below_drewN | apply below_drew1) | exact HB.out)) hb); clear HB; have HO289 := n0_; have HB := n1_; clear n0_ n1_; clear hb ho136; obtain ⟨Aox11i0, cox11i0, eox11i0⟩ := Kd.R_slice HO289.out; subst eox11i0) | ((with_reducible refine gate_dst (N := 11) rfl ?_); (try (refine gate_guard (by rfl) ?_; dsimp only)); refine Kd.R_lit k33 _ 33 ?hg (N := 11) ?hd (xs := ([(⟨1, 1, (⟨#[]⟩ : ByteArray)⟩ : S33), (⟨1, 2, (⟨#[97]⟩ : ByteArray)⟩ : S33), (⟨2, 1, (⟨#[]⟩ : ByteArray)⟩ : S33)] : List (S33))) (inner := [.int .i64 1, .int .i64 1, .string (⟨#[]⟩ : ByteArray), .int .i64 1, .int .i64 2, .string (⟨#[97]⟩ : ByteArray), .int .i64 2, .int .i64 1, .string (⟨#[]⟩ : ByteArray)]) (ok := fun _ => True) (okp := fun _ => True) ?hr ?hp (fun _ hk => hk) trivial (Below.refl _ _) (Nat.le_refl _) (by simp) ?_; (case hd => rfl); (case hg => rfl); (case hr => first | (go_simp; done) | (go_simp; rfl)); (case hp => exact (Reps.c3 (show Kd.M k33 _ _ _ (⟨1, 1, (⟨#[]⟩ : ByteArray)⟩ : S33) [.int .i64 1, .int .i64 1, .string (⟨#[]⟩ : ByteArray)] from (k33_mkM _ _ _ (⟨1, 1, (⟨#[]⟩ : ByteArray)⟩ : S33) )) (Reps.c3 (show Kd.M k33 _ _ _ (⟨1, 2, (⟨#[97]⟩ : ByteArray)⟩ : S33) [.int .i64 1, .int .i64 2, .string (⟨#[97]⟩ : ByteArray)] from (k33_mkM _ _ _ (⟨1, 2, (⟨#[97]⟩ : ByteArray)⟩ : S33) )) (Reps.c3 (show Kd.M k33 _ _ _ (⟨2, 1, (⟨#[]⟩ : ByteArray)⟩ : S33) [.int .i64 2, .int .i64 1, .string (⟨#[]⟩ : ByteArray)] from (k33_mkM _ _ _ (⟨2, 1, (⟨#[]⟩ : ByteArray)⟩ : S33) )) (Reps.none _ _))))); intro v288 wx11i0 ho160 hb hg_ hnew_; clear hg_ hnew_; (first | rw [← Ny287.out] at ho160 | (simp only [Int.reduceToNat] at ho160; rw [← Ny287.out] at ho160)); have n0_ := Aside0.mk (Kd.R_lower ho160 (below_size (by repeat (first | (with_reducible first | exact HB.out | apply below_alloc | apply pw_below_drewN | apply below_drew1) | exact HB.out)))); have n1_ := Aside0.mk (below_step (by repeat (first | (with_reducible first | exact HB.out | apply below_alloc | apply pw_below_drewN | apply below_drew1) | exact HB.out)) hb); clear HB; have HO289 := n0_; have HB := n1_; clear n0_ n1_; clear hb ho160; obtain ⟨Aox11i0, cox11i0, eox11i0⟩ := Kd.R_slice HO289.out; subst eox11i0) | ((with_reducible refine gate_dst (N := 11) rfl ?_); (try (refine gate_guard (by rfl) ?_; dsimp only)); refine Kd.R_lit k33 _ 33 ?hg (N := 11) ?hd (xs := ([(⟨1, 1, (⟨#[]⟩ : ByteArray)⟩ : S33), (⟨1, 2, (⟨#[97]⟩ : ByteArray)⟩ : S33), (⟨2, 1, (⟨#[]⟩ : ByteArray)⟩ : S33)] : List (S33))) (inner := [.int .i64 1, .int .i64 1, .string (⟨#[]⟩ : ByteArray), .int .i64 1, .int .i64 2, .string (⟨#[97]⟩ : ByteArray), .int .i64 2, .int .i64 1, .string (⟨#[]⟩ : ByteArray)]) (ok := fun _ => True) (okp := fun _ => True) ?hr ?hp (fun _ hk => hk) trivial (Below.refl _ _) (Nat.le_refl _) (by simp) ?_; (case hd => rfl); (case hg => rfl); (case hr => first | (go_simp; done) | (go_simp; rfl)); (case hp => exact (Reps.c3 (show Kd.M k33 _ _ _ (⟨1, 1, (⟨#[]⟩ : ByteArray)⟩ : S33) [.int .i64 1, .int .i64 1, .string (⟨#[]⟩ : ByteArray)] from (k33_mkM _ _ _ (⟨1, 1, (⟨#[]⟩ : ByteArray)⟩ : S33) )) (Reps.c3 (show Kd.M k33 _ _ _ (⟨1, 2, (⟨#[97]⟩ : ByteArray)⟩ : S33) [.int .i64 1, .int .i64 2, .string (⟨#[97]⟩ : ByteArray)] from (k33_mkM _ _ _ (⟨1, 2, (⟨#[97]⟩ : ByteArray)⟩ : S33) )) (Reps.c3 (show Kd.M k33 _ _ _ (⟨2, 1, (⟨#[]⟩ : ByteArray)⟩ : S33) [.int .i64 2, .int .i64 1, .string (⟨#[]⟩ : ByteArray)] from (k33_mkM _ _ _ (⟨2, 1, (⟨#[]⟩ : ByteArray)⟩ : S33) )) (Reps.none _ _))))); intro v288 wx11i0 ho183 hb hg_ hnew_; clear hg_ hnew_; (first | rw [← Ny287.out] at ho183 | (simp only [Int.reduceToNat] at ho183; rw [← Ny287.out] at ho183)); have n0_ := Aside0.mk (Kd.R_lower ho183 (below_size (by repeat (first | (with_reducible first | exact HB.out | apply below_alloc | apply pw_below_drewN | apply below_drew1) | exact HB.out)))); have n1_ := Aside0.mk (below_step (by repeat (first | (with_reducible first | exact HB.out | apply below_alloc | apply pw_below_drewN | apply below_drew1) | exact HB.out)) hb); clear HB; have HO289 := n0_; have HB := n1_; clear n0_ n1_; clear hb ho183; obtain ⟨Aox11i0, cox11i0, eox11i0⟩ := Kd.R_slice HO289.out; subst eox11i0) | ((with_reducible refine gate_dst (N := 11) rfl ?_); (try (refine gate_guard (by rfl) ?_; dsimp only)); refine Kd.R_lit k33 _ 33 ?hg (N := 11) ?hd (xs := ([(⟨1, 1, (⟨#[]⟩ : ByteArray)⟩ : S33), (⟨1, 2, (⟨#[97]⟩ : ByteArray)⟩ : S33), (⟨2, 1, (⟨#[]⟩ : ByteArray)⟩ : S33)] : List (S33))) (inner := [.int .i64 1, .int .i64 1, .string (⟨#[]⟩ : ByteArray), .int .i64 1, .int .i64 2, .string (⟨#[97]⟩ : ByteArray), .int .i64 2, .int .i64 1, .string (⟨#[]⟩ : ByteArray)]) (ok := fun _ => True) (okp := fun _ => True) ?hr ?hp (fun _ hk => hk) trivial (Below.refl _ _) (Nat.le_refl _) (by simp) ?_; (case hd => rfl); (case hg => rfl); (case hr => first | (go_simp; done) | (go_simp; rfl)); (case hp => exact (Reps.c3 (show Kd.M k33 _ _ _ (⟨1, 1, (⟨#[]⟩ : ByteArray)⟩ : S33) [.int .i64 1, .int .i64 1, .string (⟨#[]⟩ : ByteArray)] from (k33_mkM _ _ _ (⟨1, 1, (⟨#[]⟩ : ByteArray)⟩ : S33) )) (Reps.c3 (show Kd.M k33 _ _ _ (⟨1, 2, (⟨#[97]⟩ : ByteArray)⟩ : S33) [.int .i64 1, .int .i64 2, .string (⟨#[97]⟩ : ByteArray)] from (k33_mkM _ _ _ (⟨1, 2, (⟨#[97]⟩ : ByteArray)⟩ : S33) )) (Reps.c3 (show Kd.M k33 _ _ _ (⟨2, 1, (⟨#[]⟩ : ByteArray)⟩ : S33) [.int .i64 2, .int .i64 1, .string (⟨#[]⟩ : ByteArray)] from (k33_mkM _ _ _ (⟨2, 1, (⟨#[]⟩ : ByteArray)⟩ : S33) )) (Reps.none _ _))))); intro v288 wx11i0 ho206 hb hg_ hnew_; clear hg_ hnew_; (first | rw [← Ny287.out] at ho206 | (simp only [Int.reduceToNat] at ho206; rw [← Ny287.out] at ho206)); have n0_ := Aside0.mk (Kd.R_lower ho206 (below_size (by repeat (first | (with_reducible first | exact HB.out | apply below_alloc | apply pw_below_drewN | apply below_drew1) | exact HB.out)))); have n1_ := Aside0.mk (below_step (by repeat (first | (with_reducible first | exact HB.out | apply below_alloc | apply pw_below_drewN | apply below_drew1) | exact HB.out)) hb); clear HB; have HO289 := n0_; have HB := n1_; clear n0_ n1_; clear hb ho206; obtain ⟨Aox11i0, cox11i0, eox11i0⟩ := Kd.R_slice HO289.out; subst eox11i0) | ((with_reducible refine gate_dst (N := 1) rfl ?_); (try (refine gate_guard (by rfl) ?_; dsimp only)); refine box_event ?hg (N := 1) ?hd (cs := #[.int .i64 0, .int .i64 0, .slice none 0 0, .int .i64 0]) (t := 26) ?hr ?_; (case hd => rfl); (case hg => rfl); (case hr => first | (go_simp; done) | (go_simp; rfl)); intro gb290 hg wx1i0 hbox hb; have n0_ := Aside0.mk (Kd.R_below (by (with_reducible repeat (first | apply Kd.R_alloc | apply Kd.R_drewN | apply Kd.R_drew)); exact HO289.out) hb); have n1_ := Aside0.mk (below_step (by repeat (first | (with_reducible first | exact HB.out | apply below_alloc | apply pw_below_drewN | apply below_drew1) | exact HB.out)) hb); have n2_ := Aside0.mk (hbox); have n3_ := Aside0.mk ((by rw [hg]; exact (below_size (by repeat (first | (with_reducible first | exact HB.out | apply below_alloc | apply pw_below_drewN | apply below_drew1) | exact HB.out))) : w.heap.size ≤ gb290)); have n4_ := Aside0.mk ((by rw [hg]; exact (below_size (by repeat (first | (with_reducible first | exact HB.out | apply below_alloc | apply pw_below_drewN | apply below_drew1) | exact HB.out))) : w.heap.size ≤ gb290)); clear HO289; clear HB; have HO289 := n0_; have HB := n1_; have BK290 := n2_; have GW290 := n3_; have GE290 := n4_; clear n0_ n1_ n2_ n3_ n4_; clear hb hbox hg; have hczx1b290_0 : wx1i0.cell? ⟨gb290, 0, none⟩ = some (.int .i64 0) := (blk_cell BK290.out 0).trans rfl; have hczx1b290_1 : wx1i0.cell? ⟨gb290, 1, none⟩ = some (.int .i64 0) := (blk_cell BK290.out 1).trans rfl; have hczx1b290_2 : wx1i0.cell? ⟨gb290, 2, none⟩ = some (.slice none 0 0) := (blk_cell BK290.out 2).trans rfl; have hczx1b290_3 : wx1i0.cell? ⟨gb290, 3, none⟩ = some (.int .i64 0) := (blk_cell BK290.out 3).trans rfl; have hfzx1b290_0 := blk_frozen BK290.out 0; have hfzx1b290_1 := blk_frozen BK290.out 1; have hfzx1b290_2 := blk_frozen BK290.out 2; have hfzx1b290_3 := blk_frozen BK290.out 3) | ((with_reducible refine gate_dst (N := 17) rfl ?_); (try (refine gate_guard (by rfl) ?_; dsimp only)); refine Kd.R_lit k33 _ 33 ?hg (N := 17) ?hd (xs := ([(⟨3, 1, (⟨#[]⟩ : ByteArray)⟩ : S33)] : List (S33))) (inner := [.int .i64 3, .int .i64 1, .string (⟨#[]⟩ : ByteArray)]) (ok := fun _ => True) (okp := fun _ => True) ?hr ?hp (fun _ hk => hk) trivial (Below.refl _ _) (Nat.le_refl _) (by simp) ?_; (case hd => rfl); (case hg => rfl); (case hr => first | (go_simp; done) | (go_simp; rfl)); (case hp => exact (Reps.c3 (show Kd.M k33 _ _ _ (⟨3, 1, (⟨#[]⟩ : ByteArray)⟩ : S33) [.int .i64 3, .int .i64 1, .string (⟨#[]⟩ : ByteArray)] from (k33_mkM _ _ _ (⟨3, 1, (⟨#[]⟩ : ByteArray)⟩ : S33) )) (Reps.none _ _))); intro v292 wx17i0 ho117 hb hg_ hnew_; clear hg_ hnew_; (first | rw [← Ny291.out] at ho117 | (simp only [Int.reduceToNat] at ho117; rw [← Ny291.out] at ho117)); have n0_ := Aside0.mk (Kd.R_elder' (by (with_reducible repeat (first | apply Kd.R_alloc | apply Kd.R_drewN | apply Kd.R_drew)); exact (Kd.R_mono (Kd.R_far (p := ⟨gb290, 3, none⟩) (Kd.R_far (p := ⟨gb290, 2, none⟩) (Kd.R_far (p := ⟨gb290, 1, none⟩) (Kd.R_far (p := ⟨gb290, 0, none⟩) (Kd.R_types HO289.out BK290.out (by decide)) (fun _ hk => hk.2) (.int .i64 0)) (fun _ hk => hk.2) (.int .i64 0)) (fun _ hk => hk.2) (.slice Aox11i0 y287.length cox11i0)) (fun _ hk => hk.2) (.int .i64 0)) (fun _ h_ => h_.1))) (Kd.R_base ho117) hb); have n1_ := Aside0.mk (Kd.R_lower (Kd.R_new' ho117 (Kd.R_lt (by (with_reducible repeat (first | apply Kd.R_alloc | apply Kd.R_drewN | apply Kd.R_drew)); exact (Kd.R_mono (Kd.R_far (p := ⟨gb290, 3, none⟩) (Kd.R_far (p := ⟨gb290, 2, none⟩) (Kd.R_far (p := ⟨gb290, 1, none⟩) (Kd.R_far (p := ⟨gb290, 0, none⟩) (Kd.R_types HO289.out BK290.out (by decide)) (fun _ hk => hk.2) (.int .i64 0)) (fun _ hk => hk.2) (.int .i64 0)) (fun _ hk => hk.2) (.slice Aox11i0 y287.length cox11i0)) (fun _ hk => hk.2) (.int .i64 0)) (fun _ h_ => h_.1))))) (below_size (by repeat (first | (with_reducible first | exact HB.out | apply below_alloc | apply pw_below_drewN | apply below_drew1 | refine below_set ?_ GE290.out) | exact HB.out)))); have n2_ := Aside0.mk (blk_below (g := gb290) (o := .cells #[.int .i64 0, .int .i64 0, .slice Aox11i0 y287.length cox11i0, .int .i64 0] 26 (0, 0)) (by (with_reducible repeat (first | refine blk_drewN ?_ _ | refine blk_drew ?_ | refine blk_alloc ?_ _)); refine blk_put (cs := #[.int .i64 0, .int .i64 0, .slice Aox11i0 y287.length cox11i0, .int .i64 0]) ?_ 3 _ rfl; (with_reducible repeat (first | refine blk_drewN ?_ _ | refine blk_drew ?_ | refine blk_alloc ?_ _)); refine blk_put (cs := #[.int .i64 0, .int .i64 0, .slice none 0 0, .int .i64 0]) ?_ 2 _ rfl; (with_reducible repeat (first | refine blk_drewN ?_ _ | refine blk_drew ?_ | refine blk_alloc ?_ _)); refine blk_put (cs := #[.int .i64 0, .int .i64 0, .slice none 0 0, .int .i64 0]) ?_ 1 _ rfl; (with_reducible repeat (first | refine blk_drewN ?_ _ | refine blk_drew ?_ | refine blk_alloc ?_ _)); refine blk_put (cs := #[.int .i64 0, .int .i64 0, .slice none 0 0, .int .i64 0]) ?_ 0 _ rfl; (with_reducible repeat (first | refine blk_drewN ?_ _ | refine blk_drew ?_ | refine blk_alloc ?_ _)); exact BK290.out) hb); have n3_ := Aside0.mk (below_step (by repeat (first | (with_reducible first | exact HB.out | apply below_alloc | apply pw_below_drewN | apply below_drew1 | refine below_set ?_ GE290.out) | exact HB.out)) hb); clear HO289; clear BK290; clear HB; have HO289 := n0_; have HO293 := n1_; have BK290 := n2_; have HB := n3_; clear n0_ n1_ n2_ n3_; clear hb ho117; obtain ⟨Aox17i0, cox17i0, eox17i0⟩ := Kd.R_slice HO293.out; subst eox17i0) | ((with_reducible refine gate_dst (N := 17) rfl ?_); (try (refine gate_guard (by rfl) ?_; dsimp only)); refine Kd.R_lit k33 _ 33 ?hg (N := 17) ?hd (xs := ([(⟨3, 1, (⟨#[]⟩ : ByteArray)⟩ : S33)] : List (S33))) (inner := [.int .i64 3, .int .i64 1, .string (⟨#[]⟩ : ByteArray)]) (ok := fun _ => True) (okp := fun _ => True) ?hr ?hp (fun _ hk => hk) trivial (Below.refl _ _) (Nat.le_refl _) (by simp) ?_; (case hd => rfl); (case hg => rfl); (case hr => first | (go_simp; done) | (go_simp; rfl)); (case hp => exact (Reps.c3 (show Kd.M k33 _ _ _ (⟨3, 1, (⟨#[]⟩ : ByteArray)⟩ : S33) [.int .i64 3, .int .i64 1, .string (⟨#[]⟩ : ByteArray)] from (k33_mkM _ _ _ (⟨3, 1, (⟨#[]⟩ : ByteArray)⟩ : S33) )) (Reps.none _ _))); intro v292 wx17i0 ho141 hb hg_ hnew_; clear hg_ hnew_; (first | rw [← Ny291.out] at ho141 | (simp only [Int.reduceToNat] at ho141; rw [← Ny291.out] at ho141)); have n0_ := Aside0.mk (Kd.R_elder' (by (with_reducible repeat (first | apply Kd.R_alloc | apply Kd.R_drewN | apply Kd.R_drew)); exact (Kd.R_mono (Kd.R_far (p := ⟨gb290, 3, none⟩) (Kd.R_far (p := ⟨gb290, 2, none⟩) (Kd.R_far (p := ⟨gb290, 1, none⟩) (Kd.R_far (p := ⟨gb290, 0, none⟩) (Kd.R_types HO289.out BK290.out (by decide)) (fun _ hk => hk.2) (.int .i64 0)) (fun _ hk => hk.2) (.int .i64 0)) (fun _ hk => hk.2) (.slice Aox11i0 y287.length cox11i0)) (fun _ hk => hk.2) (.int .i64 0)) (fun _ h_ => h_.1))) (Kd.R_base ho141) hb); have n1_ := Aside0.mk (Kd.R_lower (Kd.R_new' ho141 (Kd.R_lt (by (with_reducible repeat (first | apply Kd.R_alloc | apply Kd.R_drewN | apply Kd.R_drew)); exact (Kd.R_mono (Kd.R_far (p := ⟨gb290, 3, none⟩) (Kd.R_far (p := ⟨gb290, 2, none⟩) (Kd.R_far (p := ⟨gb290, 1, none⟩) (Kd.R_far (p := ⟨gb290, 0, none⟩) (Kd.R_types HO289.out BK290.out (by decide)) (fun _ hk => hk.2) (.int .i64 0)) (fun _ hk => hk.2) (.int .i64 0)) (fun _ hk => hk.2) (.slice Aox11i0 y287.length cox11i0)) (fun _ hk => hk.2) (.int .i64 0)) (fun _ h_ => h_.1))))) (below_size (by repeat (first | (with_reducible first | exact HB.out | apply below_alloc | apply pw_below_drewN | apply below_drew1 | refine below_set ?_ GE290.out) | exact HB.out)))); have n2_ := Aside0.mk (blk_below (g := gb290) (o := .cells #[.int .i64 0, .int .i64 0, .slice Aox11i0 y287.length cox11i0, .int .i64 0] 26 (0, 0)) (by (with_reducible repeat (first | refine blk_drewN ?_ _ | refine blk_drew ?_ | refine blk_alloc ?_ _)); refine blk_put (cs := #[.int .i64 0, .int .i64 0, .slice Aox11i0 y287.length cox11i0, .int .i64 0]) ?_ 3 _ rfl; (with_reducible repeat (first | refine blk_drewN ?_ _ | refine blk_drew ?_ | refine blk_alloc ?_ _)); refine blk_put (cs := #[.int .i64 0, .int .i64 0, .slice none 0 0, .int .i64 0]) ?_ 2 _ rfl; (with_reducible repeat (first | refine blk_drewN ?_ _ | refine blk_drew ?_ | refine blk_alloc ?_ _)); refine blk_put (cs := #[.int .i64 0, .int .i64 0, .slice none 0 0, .int .i64 0]) ?_ 1 _ rfl; (with_reducible repeat (first | refine blk_drewN ?_ _ | refine blk_drew ?_ | refine blk_alloc ?_ _)); refine blk_put (cs := #[.int .i64 0, .int .i64 0, .slice none 0 0, .int .i64 0]) ?_ 0 _ rfl; (with_reducible repeat (first | refine blk_drewN ?_ _ | refine blk_drew ?_ | refine blk_alloc ?_ _)); exact BK290.out) hb); have n3_ := Aside0.mk (below_step (by repeat (first | (with_reducible first | exact HB.out | apply below_alloc | apply pw_below_drewN | apply below_drew1 | refine below_set ?_ GE290.out) | exact HB.out)) hb); clear HO289; clear BK290; clear HB; have HO289 := n0_; have HO293 := n1_; have BK290 := n2_; have HB := n3_; clear n0_ n1_ n2_ n3_; clear hb ho141; obtain ⟨Aox17i0, cox17i0, eox17i0⟩ := Kd.R_slice HO293.out; subst eox17i0) | ((with_reducible refine gate_dst (N := 17) rfl ?_); (try (refine gate_guard (by rfl) ?_; dsimp only)); refine Kd.R_lit k33 _ 33 ?hg (N := 17) ?hd (xs := ([(⟨3, 1, (⟨#[]⟩ : ByteArray)⟩ : S33)] : List (S33))) (inner := [.int .i64 3, .int .i64 1, .string (⟨#[]⟩ : ByteArray)]) (ok := fun _ => True) (okp := fun _ => True) ?hr ?hp (fun _ hk => hk) trivial (Below.refl _ _) (Nat.le_refl _) (by simp) ?_; (case hd => rfl); (case hg => rfl); (case hr => first | (go_simp; done) | (go_simp; rfl)); (case hp => exact (Reps.c3 (show Kd.M k33 _ _ _ (⟨3, 1, (⟨#[]⟩ : ByteArray)⟩ : S33) [.int .i64 3, .int .i64 1, .string (⟨#[]⟩ : ByteArray)] from (k33_mkM _ _ _ (⟨3, 1, (⟨#[]⟩ : ByteArray)⟩ : S33) )) (Reps.none _ _))); intro v292 wx17i0 ho165 hb hg_ hnew_; clear hg_ hnew_; (first | rw [← Ny291.out] at ho165 | (simp only [Int.reduceToNat] at ho165; rw [← Ny291.out] at ho165)); have n0_ := Aside0.mk (Kd.R_elder' (by (with_reducible repeat (first | apply Kd.R_alloc | apply Kd.R_drewN | apply Kd.R_drew)); exact (Kd.R_mono (Kd.R_far (p := ⟨gb290, 3, none⟩) (Kd.R_far (p := ⟨gb290, 2, none⟩) (Kd.R_far (p := ⟨gb290, 1, none⟩) (Kd.R_far (p := ⟨gb290, 0, none⟩) (Kd.R_types HO289.out BK290.out (by decide)) (fun _ hk => hk.2) (.int .i64 0)) (fun _ hk => hk.2) (.int .i64 0)) (fun _ hk => hk.2) (.slice Aox11i0 y287.length cox11i0)) (fun _ hk => hk.2) (.int .i64 0)) (fun _ h_ => h_.1))) (Kd.R_base ho165) hb); have n1_ := Aside0.mk (Kd.R_lower (Kd.R_new' ho165 (Kd.R_lt (by (with_reducible repeat (first | apply Kd.R_alloc | apply Kd.R_drewN | apply Kd.R_drew)); exact (Kd.R_mono (Kd.R_far (p := ⟨gb290, 3, none⟩) (Kd.R_far (p := ⟨gb290, 2, none⟩) (Kd.R_far (p := ⟨gb290, 1, none⟩) (Kd.R_far (p := ⟨gb290, 0, none⟩) (Kd.R_types HO289.out BK290.out (by decide)) (fun _ hk => hk.2) (.int .i64 0)) (fun _ hk => hk.2) (.int .i64 0)) (fun _ hk => hk.2) (.slice Aox11i0 y287.length cox11i0)) (fun _ hk => hk.2) (.int .i64 0)) (fun _ h_ => h_.1))))) (below_size (by repeat (first | (with_reducible first | exact HB.out | apply below_alloc | apply pw_below_drewN | apply below_drew1 | refine below_set ?_ GE290.out) | exact HB.out)))); have n2_ := Aside0.mk (blk_below (g := gb290) (o := .cells #[.int .i64 0, .int .i64 0, .slice Aox11i0 y287.length cox11i0, .int .i64 0] 26 (0, 0)) (by (with_reducible repeat (first | refine blk_drewN ?_ _ | refine blk_drew ?_ | refine blk_alloc ?_ _)); refine blk_put (cs := #[.int .i64 0, .int .i64 0, .slice Aox11i0 y287.length cox11i0, .int .i64 0]) ?_ 3 _ rfl; (with_reducible repeat (first | refine blk_drewN ?_ _ | refine blk_drew ?_ | refine blk_alloc ?_ _)); refine blk_put (cs := #[.int .i64 0, .int .i64 0, .slice none 0 0, .int .i64 0]) ?_ 2 _ rfl; (with_reducible repeat (first | refine blk_drewN ?_ _ | refine blk_drew ?_ | refine blk_alloc ?_ _)); refine blk_put (cs := #[.int .i64 0, .int .i64 0, .slice none 0 0, .int .i64 0]) ?_ 1 _ rfl; (with_reducible repeat (first | refine blk_drewN ?_ _ | refine blk_drew ?_ | refine blk_alloc ?_ _)); refine blk_put (cs := #[.int .i64 0, .int .i64 0, .slice none 0 0, .int .i64 0]) ?_ 0 _ rfl; (with_reducible repeat (first | refine blk_drewN ?_ _ | refine blk_drew ?_ | refine blk_alloc ?_ _)); exact BK290.out) hb); have n3_ := Aside0.mk (below_step (by repeat (first | (with_reducible first | exact HB.out | apply below_alloc | apply pw_below_drewN | apply below_drew1 | refine below_set ?_ GE290.out) | exact HB.out)) hb); clear HO289; clear BK290; clear HB; have HO289 := n0_; have HO293 := n1_; have BK290 := n2_; have HB := n3_; clear n0_ n1_ n2_ n3_; clear hb ho165; obtain ⟨Aox17i0, cox17i0, eox17i0⟩ := Kd.R_slice HO293.out; subst eox17i0) | ((with_reducible refine gate_dst (N := 17) rfl ?_); (try (refine gate_guard (by rfl) ?_; dsimp only)); refine Kd.R_lit k33 _ 33 ?hg (N := 17) ?hd (xs := ([(⟨3, 1, (⟨#[]⟩ : ByteArray)⟩ : S33)] : List (S33))) (inner := [.int .i64 3, .int .i64 1, .string (⟨#[]⟩ : ByteArray)]) (ok := fun _ => True) (okp := fun _ => True) ?hr ?hp (fun _ hk => hk) trivial (Below.refl _ _) (Nat.le_refl _) (by simp) ?_; (case hd => rfl); (case hg => rfl); (case hr => first | (go_simp; done) | (go_simp; rfl)); (case hp => exact (Reps.c3 (show Kd.M k33 _ _ _ (⟨3, 1, (⟨#[]⟩ : ByteArray)⟩ : S33) [.int .i64 3, .int .i64 1, .string (⟨#[]⟩ : ByteArray)] from (k33_mkM _ _ _ (⟨3, 1, (⟨#[]⟩ : ByteArray)⟩ : S33) )) (Reps.none _ _))); intro v292 wx17i0 ho188 hb hg_ hnew_; clear hg_ hnew_; (first | rw [← Ny291.out] at ho188 | (simp only [Int.reduceToNat] at ho188; rw [← Ny291.out] at ho188)); have n0_ := Aside0.mk (Kd.R_elder' (by (with_reducible repeat (first | apply Kd.R_alloc | apply Kd.R_drewN | apply Kd.R_drew)); exact (Kd.R_mono (Kd.R_far (p := ⟨gb290, 3, none⟩) (Kd.R_far (p := ⟨gb290, 2, none⟩) (Kd.R_far (p := ⟨gb290, 1, none⟩) (Kd.R_far (p := ⟨gb290, 0, none⟩) (Kd.R_types HO289.out BK290.out (by decide)) (fun _ hk => hk.2) (.int .i64 0)) (fun _ hk => hk.2) (.int .i64 0)) (fun _ hk => hk.2) (.slice Aox11i0 y287.length cox11i0)) (fun _ hk => hk.2) (.int .i64 0)) (fun _ h_ => h_.1))) (Kd.R_base ho188) hb); have n1_ := Aside0.mk (Kd.R_lower (Kd.R_new' ho188 (Kd.R_lt (by (with_reducible repeat (first | apply Kd.R_alloc | apply Kd.R_drewN | apply Kd.R_drew)); exact (Kd.R_mono (Kd.R_far (p := ⟨gb290, 3, none⟩) (Kd.R_far (p := ⟨gb290, 2, none⟩) (Kd.R_far (p := ⟨gb290, 1, none⟩) (Kd.R_far (p := ⟨gb290, 0, none⟩) (Kd.R_types HO289.out BK290.out (by decide)) (fun _ hk => hk.2) (.int .i64 0)) (fun _ hk => hk.2) (.int .i64 0)) (fun _ hk => hk.2) (.slice Aox11i0 y287.length cox11i0)) (fun _ hk => hk.2) (.int .i64 0)) (fun _ h_ => h_.1))))) (below_size (by repeat (first | (with_reducible first | exact HB.out | apply below_alloc | apply pw_below_drewN | apply below_drew1 | refine below_set ?_ GE290.out) | exact HB.out)))); have n2_ := Aside0.mk (blk_below (g := gb290) (o := .cells #[.int .i64 0, .int .i64 0, .slice Aox11i0 y287.length cox11i0, .int .i64 0] 26 (0, 0)) (by (with_reducible repeat (first | refine blk_drewN ?_ _ | refine blk_drew ?_ | refine blk_alloc ?_ _)); refine blk_put (cs := #[.int .i64 0, .int .i64 0, .slice Aox11i0 y287.length cox11i0, .int .i64 0]) ?_ 3 _ rfl; (with_reducible repeat (first | refine blk_drewN ?_ _ | refine blk_drew ?_ | refine blk_alloc ?_ _)); refine blk_put (cs := #[.int .i64 0, .int .i64 0, .slice none 0 0, .int .i64 0]) ?_ 2 _ rfl; (with_reducible repeat (first | refine blk_drewN ?_ _ | refine blk_drew ?_ | refine blk_alloc ?_ _)); refine blk_put (cs := #[.int .i64 0, .int .i64 0, .slice none 0 0, .int .i64 0]) ?_ 1 _ rfl; (with_reducible repeat (first | refine blk_drewN ?_ _ | refine blk_drew ?_ | refine blk_alloc ?_ _)); refine blk_put (cs := #[.int .i64 0, .int .i64 0, .slice none 0 0, .int .i64 0]) ?_ 0 _ rfl; (with_reducible repeat (first | refine blk_drewN ?_ _ | refine blk_drew ?_ | refine blk_alloc ?_ _)); exact BK290.out) hb); have n3_ := Aside0.mk (below_step (by repeat (first | (with_reducible first | exact HB.out | apply below_alloc | apply pw_below_drewN | apply below_drew1 | refine below_set ?_ GE290.out) | exact HB.out)) hb); clear HO289; clear BK290; clear HB; have HO289 := n0_; have HO293 := n1_; have BK290 := n2_; have HB := n3_; clear n0_ n1_ n2_ n3_; clear hb ho188; obtain ⟨Aox17i0, cox17i0, eox17i0⟩ := Kd.R_slice HO293.out; subst eox17i0) | ((with_reducible refine gate_dst (N := 17) rfl ?_); (try (refine gate_guard (by rfl) ?_; dsimp only)); refine Kd.R_lit k33 _ 33 ?hg (N := 17) ?hd (xs := ([(⟨3, 1, (⟨#[]⟩ : ByteArray)⟩ : S33)] : List (S33))) (inner := [.int .i64 3, .int .i64 1, .string (⟨#[]⟩ : ByteArray)]) (ok := fun _ => True) (okp := fun _ => True) ?hr ?hp (fun _ hk => hk) trivial (Below.refl _ _) (Nat.le_refl _) (by simp) ?_; (case hd => rfl); (case hg => rfl); (case hr => first | (go_simp; done) | (go_simp; rfl)); (case hp => exact (Reps.c3 (show Kd.M k33 _ _ _ (⟨3, 1, (⟨#[]⟩ : ByteArray)⟩ : S33) [.int .i64 3, .int .i64 1, .string (⟨#[]⟩ : ByteArray)] from (k33_mkM _ _ _ (⟨3, 1, (⟨#[]⟩ : ByteArray)⟩ : S33) )) (Reps.none _ _))); intro v292 wx17i0 ho211 hb hg_ hnew_; clear hg_ hnew_; (first | rw [← Ny291.out] at ho211 | (simp only [Int.reduceToNat] at ho211; rw [← Ny291.out] at ho211)); have n0_ := Aside0.mk (Kd.R_elder' (by (with_reducible repeat (first | apply Kd.R_alloc | apply Kd.R_drewN | apply Kd.R_drew)); exact (Kd.R_mono (Kd.R_far (p := ⟨gb290, 3, none⟩) (Kd.R_far (p := ⟨gb290, 2, none⟩) (Kd.R_far (p := ⟨gb290, 1, none⟩) (Kd.R_far (p := ⟨gb290, 0, none⟩) (Kd.R_types HO289.out BK290.out (by decide)) (fun _ hk => hk.2) (.int .i64 0)) (fun _ hk => hk.2) (.int .i64 0)) (fun _ hk => hk.2) (.slice Aox11i0 y287.length cox11i0)) (fun _ hk => hk.2) (.int .i64 0)) (fun _ h_ => h_.1))) (Kd.R_base ho211) hb); have n1_ := Aside0.mk (Kd.R_lower (Kd.R_new' ho211 (Kd.R_lt (by (with_reducible repeat (first | apply Kd.R_alloc | apply Kd.R_drewN | apply Kd.R_drew)); exact (Kd.R_mono (Kd.R_far (p := ⟨gb290, 3, none⟩) (Kd.R_far (p := ⟨gb290, 2, none⟩) (Kd.R_far (p := ⟨gb290, 1, none⟩) (Kd.R_far (p := ⟨gb290, 0, none⟩) (Kd.R_types HO289.out BK290.out (by decide)) (fun _ hk => hk.2) (.int .i64 0)) (fun _ hk => hk.2) (.int .i64 0)) (fun _ hk => hk.2) (.slice Aox11i0 y287.length cox11i0)) (fun _ hk => hk.2) (.int .i64 0)) (fun _ h_ => h_.1))))) (below_size (by repeat (first | (with_reducible first | exact HB.out | apply below_alloc | apply pw_below_drewN | apply below_drew1 | refine below_set ?_ GE290.out) | exact HB.out)))); have n2_ := Aside0.mk (blk_below (g := gb290) (o := .cells #[.int .i64 0, .int .i64 0, .slice Aox11i0 y287.length cox11i0, .int .i64 0] 26 (0, 0)) (by (with_reducible repeat (first | refine blk_drewN ?_ _ | refine blk_drew ?_ | refine blk_alloc ?_ _)); refine blk_put (cs := #[.int .i64 0, .int .i64 0, .slice Aox11i0 y287.length cox11i0, .int .i64 0]) ?_ 3 _ rfl; (with_reducible repeat (first | refine blk_drewN ?_ _ | refine blk_drew ?_ | refine blk_alloc ?_ _)); refine blk_put (cs := #[.int .i64 0, .int .i64 0, .slice none 0 0, .int .i64 0]) ?_ 2 _ rfl; (with_reducible repeat (first | refine blk_drewN ?_ _ | refine blk_drew ?_ | refine blk_alloc ?_ _)); refine blk_put (cs := #[.int .i64 0, .int .i64 0, .slice none 0 0, .int .i64 0]) ?_ 1 _ rfl; (with_reducible repeat (first | refine blk_drewN ?_ _ | refine blk_drew ?_ | refine blk_alloc ?_ _)); refine blk_put (cs := #[.int .i64 0, .int .i64 0, .slice none 0 0, .int .i64 0]) ?_ 0 _ rfl; (with_reducible repeat (first | refine blk_drewN ?_ _ | refine blk_drew ?_ | refine blk_alloc ?_ _)); exact BK290.out) hb); have n3_ := Aside0.mk (below_step (by repeat (first | (with_reducible first | exact HB.out | apply below_alloc | apply pw_below_drewN | apply below_drew1 | refine below_set ?_ GE290.out) | exact HB.out)) hb); clear HO289; clear BK290; clear HB; have HO289 := n0_; have HO293 := n1_; have BK290 := n2_; have HB := n3_; clear n0_ n1_ n2_ n3_; clear hb ho211; obtain ⟨Aox17i0, cox17i0, eox17i0⟩ := Kd.R_slice HO293.out; subst eox17i0) | ((with_reducible refine gate_callee (f := 20) rfl ?_); refine goesL_ (some 18) rfl rfl Try.func20 (by kernel_rfl) rfl #[.agg #[.int .i64 0, .int .i64 0, .slice Aox11i0 y287.length cox11i0, .int .i64 0], .agg #[.int .i64 2, .int .i64 1], .slice Aox17i0 y291.length cox17i0, .int .i64 9] rfl (by (try simp only [List.map_toArray, List.map_cons, List.map_nil]); first | done | rfl | (simp only [List.length_drop, List.length_take]; rfl)) ?_; (with_reducible refine (entries_Accept.calls k 0 0 _ _ y287 0 2 1 _ _ y291 9 t294 t295 t296 t299 t300 _ t302 _ ?side1 ?side2 ?side3 ?side4 A1.out).mono ?_); (case side1 => repeat (first | exact (Kd.R_reads' HO289.out).2.2 | (with_reducible refine Kd.C_alloc ?_ _) | (with_reducible refine Kd.C_drewN ?_ _) | (with_reducible refine Kd.C_drew ?_))); (case side2 => exact (Kd.R_reads' HO289.out).2.1); (case side3 => repeat (first | exact (Kd.R_reads' HO293.out).2.2 | (with_reducible refine Kd.C_alloc ?_ _) | (with_reducible refine Kd.C_drewN ?_ _) | (with_reducible refine Kd.C_drew ?_))); (case side4 => exact (Kd.R_reads' HO293.out).2.1); rintro e wx18i0 ⟨v297, rfl, ho0, hb⟩; refine ⟨_, rfl, ?_⟩; have n0_ := Aside0.mk (Kd.R_elder' (by (with_reducible repeat (first | apply Kd.R_alloc | apply Kd.R_drewN | apply Kd.R_drew)); exact HO289.out) (Kd.R_base ho0) hb); have n1_ := Aside0.mk (Kd.R_elder' (by (with_reducible repeat (first | apply Kd.R_alloc | apply Kd.R_drewN | apply Kd.R_drew)); exact HO293.out) (Kd.R_base ho0) hb); have n2_ := Aside0.mk (Kd.R_lower (Kd.R_new' (Kd.R_new' ho0 (Kd.R_lt (by (with_reducible repeat (first | apply Kd.R_alloc | apply Kd.R_drewN | apply Kd.R_drew)); exact HO289.out))) (Kd.R_lt (by (with_reducible repeat (first | apply Kd.R_alloc | apply Kd.R_drewN | apply Kd.R_drew)); exact HO293.out))) (below_size (by repeat (first | (with_reducible first | exact HB.out | apply below_alloc | apply pw_below_drewN | apply below_drew1 | refine below_set ?_ GE290.out) | exact HB.out)))); have n3_ := Aside0.mk (blk_below (g := gb290) (o := .cells #[.int .i64 0, .int .i64 0, .slice Aox11i0 y287.length cox11i0, .int .i64 0] 26 (0, 0)) (by (with_reducible repeat (first | refine blk_drewN ?_ _ | refine blk_drew ?_ | refine blk_alloc ?_ _)); exact BK290.out) hb); have n4_ := Aside0.mk (below_step (by repeat (first | (with_reducible first | exact HB.out | apply below_alloc | apply pw_below_drewN | apply below_drew1 | refine below_set ?_ GE290.out) | exact HB.out)) hb); clear HO289; clear HO293; clear BK290; clear HB; have HO289 := n0_; have HO293 := n1_; have HO298 := n2_; have BK290 := n3_; have HB := n4_; clear n0_ n1_ n2_ n3_ n4_; (try clear hb); (try clear hb2); (try clear hk); (try clear hi); (try clear ho0)) | ((with_reducible refine gate_callee (f := 20) rfl ?_); refine goesL_ (some 18) rfl rfl Try.func20 (by kernel_rfl) rfl #[.agg #[.int .i64 0, .int .i64 0, .slice Aox11i0 y287.length cox11i0, .int .i64 0], .agg #[.int .i64 2, .int .i64 1], .slice Aox17i0 y291.length cox17i0, .int .i64 9] rfl (by (try simp only [List.map_toArray, List.map_cons, List.map_nil]); first | done | rfl | (simp only [List.length_drop, List.length_take]; rfl)) ?_; (with_reducible refine (entries_Accept.calls k 0 0 _ _ y287 0 2 1 _ _ y291 9 t294 t295 t296 t299 t300 t301 t302 _ ?side1 ?side2 ?side3 ?side4 A1.out).mono ?_); (case side1 => repeat (first | exact (Kd.R_reads' HO289.out).2.2 | (with_reducible refine Kd.C_alloc ?_ _) | (with_reducible refine Kd.C_drewN ?_ _) | (with_reducible refine Kd.C_drew ?_))); (case side2 => exact (Kd.R_reads' HO289.out).2.1); (case side3 => repeat (first | exact (Kd.R_reads' HO293.out).2.2 | (with_reducible refine Kd.C_alloc ?_ _) | (with_reducible refine Kd.C_drewN ?_ _) | (with_reducible refine Kd.C_drew ?_))); (case side4 => exact (Kd.R_reads' HO293.out).2.1); rintro e wx18i0 ⟨v297, rfl, ho0, hb⟩; refine ⟨_, rfl, ?_⟩; have n0_ := Aside0.mk (Kd.R_elder' (by (with_reducible repeat (first | apply Kd.R_alloc | apply Kd.R_drewN | apply Kd.R_drew)); exact HO289.out) (Kd.R_base ho0) hb); have n1_ := Aside0.mk (Kd.R_elder' (by (with_reducible repeat (first | apply Kd.R_alloc | apply Kd.R_drewN | apply Kd.R_drew)); exact HO293.out) (Kd.R_base ho0) hb); have n2_ := Aside0.mk (Kd.R_lower (Kd.R_new' (Kd.R_new' ho0 (Kd.R_lt (by (with_reducible repeat (first | apply Kd.R_alloc | apply Kd.R_drewN | apply Kd.R_drew)); exact HO289.out))) (Kd.R_lt (by (with_reducible repeat (first | apply Kd.R_alloc | apply Kd.R_drewN | apply Kd.R_drew)); exact HO293.out))) (below_size (by repeat (first | (with_reducible first | exact HB.out | apply below_alloc | apply pw_below_drewN | apply below_drew1 | refine below_set ?_ GE290.out) | exact HB.out)))); have n3_ := Aside0.mk (blk_below (g := gb290) (o := .cells #[.int .i64 0, .int .i64 0, .slice Aox11i0 y287.length cox11i0, .int .i64 0] 26 (0, 0)) (by (with_reducible repeat (first | refine blk_drewN ?_ _ | refine blk_drew ?_ | refine blk_alloc ?_ _)); exact BK290.out) hb); have n4_ := Aside0.mk (below_step (by repeat (first | (with_reducible first | exact HB.out | apply below_alloc | apply pw_below_drewN | apply below_drew1 | refine below_set ?_ GE290.out) | exact HB.out)) hb); clear HO289; clear HO293; clear BK290; clear HB; have HO289 := n0_; have HO293 := n1_; have HO298 := n2_; have BK290 := n3_; have HB := n4_; clear n0_ n1_ n2_ n3_ n4_; (try clear hb); (try clear hb2); (try clear hk); (try clear hi); (try clear ho0)) | ((with_reducible refine gate_dst (N := 2) rfl ?_); (try (refine gate_guard (by rfl) ?_; dsimp only)); refine box_event ?hg (N := 2) ?hd (cs := #[.int .i64 0, .int .i64 0, .slice none 0 0, .int .i64 0]) (t := 26) ?hr ?_; (case hd => rfl); (case hg => rfl); (case hr => first | (go_simp; done) | (go_simp; rfl)); intro gb303 hg wx2i0 hbox hb; have n0_ := Aside0.mk (Kd.R_below (by (with_reducible repeat (first | apply Kd.R_alloc | apply Kd.R_drewN | apply Kd.R_drew)); exact HO289.out) hb); have n1_ := Aside0.mk (Kd.R_below (by (with_reducible repeat (first | apply Kd.R_alloc | apply Kd.R_drewN | apply Kd.R_drew)); exact HO293.out) hb); have n2_ := Aside0.mk (Kd.R_below (by (with_reducible repeat (first | apply Kd.R_alloc | apply Kd.R_drewN | apply Kd.R_drew)); exact HO298.out) hb); have n3_ := Aside0.mk (blk_below (g := gb290) (o := .cells #[.int .i64 0, .int .i64 0, .slice Aox11i0 y287.length cox11i0, .int .i64 0] 26 (0, 0)) (by (with_reducible repeat (first | refine blk_drewN ?_ _ | refine blk_drew ?_ | refine blk_alloc ?_ _)); exact BK290.out) hb); have n4_ := Aside0.mk (below_step (by repeat (first | (with_reducible first | exact HB.out | apply below_alloc | apply pw_below_drewN | apply below_drew1 | refine below_set ?_ GE290.out) | exact HB.out)) hb); have n5_ := Aside0.mk (hbox); have n6_ := Aside0.mk ((by rw [hg]; exact (below_size (by repeat (first | (with_reducible first | exact HB.out | apply below_alloc | apply pw_below_drewN | apply below_drew1 | refine below_set ?_ GE290.out) | exact HB.out))) : w.heap.size ≤ gb303)); have n7_ := Aside0.mk ((by rw [hg]; exact (below_size (by repeat (first | (with_reducible first | exact HB.out | apply below_alloc | apply pw_below_drewN | apply below_drew1 | refine below_set ?_ GE290.out) | exact HB.out))) : w.heap.size ≤ gb303)); have n8_ := Aside0.mk ((by rw [hg]; exact Nat.ne_of_lt (blk_lt (g := gb290) (o := .cells #[.int .i64 0, .int .i64 0, .slice Aox11i0 y287.length cox11i0, .int .i64 0] 26 (0, 0)) (by (with_reducible repeat (first | refine blk_drewN ?_ _ | refine blk_drew ?_ | refine blk_alloc ?_ _)); exact BK290.out)) : gb290 ≠ gb303)); have n9_ := Aside0.mk ((by rw [hg]; exact Nat.ne_of_gt (blk_lt (g := gb290) (o := .cells #[.int .i64 0, .int .i64 0, .slice Aox11i0 y287.length cox11i0, .int .i64 0] 26 (0, 0)) (by (with_reducible repeat (first | refine blk_drewN ?_ _ | refine blk_drew ?_ | refine blk_alloc ?_ _)); exact BK290.out)) : gb303 ≠ gb290)); clear HO289; clear HO293; clear HO298; clear BK290; clear HB; have HO289 := n0_; have HO293 := n1_; have HO298 := n2_; have BK290 := n3_; have HB := n4_; have BK303 := n5_; have GW303 := n6_; have GE303 := n7_; have NB290_303 := n8_; have NB303_290 := n9_; clear n0_ n1_ n2_ n3_ n4_ n5_ n6_ n7_ n8_ n9_; clear hb hbox hg; have hnbx2b303_290 := NB303_290.out; have hncx2b290_303 := NB290_303.out; have hczx2b303_0 : wx2i0.cell? ⟨gb303, 0, none⟩ = some (.int .i64 0) := (blk_cell BK303.out 0).trans rfl; have hczx2b303_1 : wx2i0.cell? ⟨gb303, 1, none⟩ = some (.int .i64 0) := (blk_cell BK303.out 1).trans rfl; have hczx2b303_2 : wx2i0.cell? ⟨gb303, 2, none⟩ = some (.slice none 0 0) := (blk_cell BK303.out 2).trans rfl; have hczx2b303_3 : wx2i0.cell? ⟨gb303, 3, none⟩ = some (.int .i64 0) := (blk_cell BK303.out 3).trans rfl; have hfzx2b303_0 := blk_frozen BK303.out 0; have hfzx2b303_1 := blk_frozen BK303.out 1; have hfzx2b303_2 := blk_frozen BK303.out 2; have hfzx2b303_3 := blk_frozen BK303.out 3; obtain ⟨Aox2i0, cox2i0, eox2i0⟩ := Kd.R_slice HO298.out; subst eox2i0; have hczx2b290_0 : wx2i0.cell? ⟨gb290, 0, none⟩ = some (.int .i64 0) := (blk_cell BK290.out 0).trans rfl; have hczx2b290_1 : wx2i0.cell? ⟨gb290, 1, none⟩ = some (.int .i64 0) := (blk_cell BK290.out 1).trans rfl; have hczx2b290_2 : wx2i0.cell? ⟨gb290, 2, none⟩ = some (.slice Aox11i0 y287.length cox11i0) := (blk_cell BK290.out 2).trans rfl; have hczx2b290_3 : wx2i0.cell? ⟨gb290, 3, none⟩ = some (.int .i64 0) := (blk_cell BK290.out 3).trans rfl; have hfzx2b290_0 := blk_frozen BK290.out 0; have hfzx2b290_1 := blk_frozen BK290.out 1; have hfzx2b290_2 := blk_frozen BK290.out 2; have hfzx2b290_3 := blk_frozen BK290.out 3) | ((with_reducible refine gate_dst (N := 25) rfl ?_); (try (refine gate_guard (by rfl) ?_; dsimp only)); refine Kd.R_lit (Kd.int .i64) _ 3 ?hg (N := 25) ?hd (xs := ([3, 3, 1] : List Int)) (inner := [.int .i64 3, .int .i64 3, .int .i64 1]) (ok := fun _ => True) (okp := fun _ => True) ?hr ?hp (fun _ hk => hk) trivial (Below.refl _ _) (Nat.le_refl _) (by simp) ?_; (case hd => rfl); (case hg => rfl); (case hr => first | (go_simp; done) | (go_simp; rfl)); (case hp => exact (Reps.one (show Kd.M (Kd.int .i64) _ _ _ 3 [.int .i64 3] from rfl) (Reps.one (show Kd.M (Kd.int .i64) _ _ _ 3 [.int .i64 3] from rfl) (Reps.one (show Kd.M (Kd.int .i64) _ _ _ 1 [.int .i64 1] from rfl) (Reps.none _ _))))); intro v305 wx25i0 ho126 hb hg_ hnew_; clear hg_ hnew_; (first | rw [← Ny304.out] at ho126 | (simp only [Int.reduceToNat] at ho126; rw [← Ny304.out] at ho126)); have n0_ := Aside0.mk (Kd.R_below (by (with_reducible repeat (first | apply Kd.R_alloc | apply Kd.R_drewN | apply Kd.R_drew)); exact (Kd.R_mono (Kd.R_far (p := ⟨gb303, 3, none⟩) (Kd.R_far (p := ⟨gb303, 2, none⟩) (Kd.R_far (p := ⟨gb303, 1, none⟩) (Kd.R_far (p := ⟨gb303, 0, none⟩) (Kd.R_types HO289.out BK303.out (by decide)) (fun _ hk => hk.2) (.int .i64 t294)) (fun _ hk => hk.2) (.int .i64 t295)) (fun _ hk => hk.2) (.slice Aox2i0 t296.length cox2i0)) (fun _ hk => hk.2) (.int .i64 t299)) (fun _ h_ => h_.1))) hb); have n1_ := Aside0.mk (Kd.R_below (by (with_reducible repeat (first | apply Kd.R_alloc | apply Kd.R_drewN | apply Kd.R_drew)); exact (Kd.R_mono (Kd.R_far (p := ⟨gb303, 3, none⟩) (Kd.R_far (p := ⟨gb303, 2, none⟩) (Kd.R_far (p := ⟨gb303, 1, none⟩) (Kd.R_far (p := ⟨gb303, 0, none⟩) (Kd.R_types HO293.out BK303.out (by decide)) (fun _ hk => hk.2) (.int .i64 t294)) (fun _ hk => hk.2) (.int .i64 t295)) (fun _ hk => hk.2) (.slice Aox2i0 t296.length cox2i0)) (fun _ hk => hk.2) (.int .i64 t299)) (fun _ h_ => h_.1))) hb); have n2_ := Aside0.mk (Kd.R_below (by (with_reducible repeat (first | apply Kd.R_alloc | apply Kd.R_drewN | apply Kd.R_drew)); exact (Kd.R_mono (Kd.R_far (p := ⟨gb303, 3, none⟩) (Kd.R_far (p := ⟨gb303, 2, none⟩) (Kd.R_far (p := ⟨gb303, 1, none⟩) (Kd.R_far (p := ⟨gb303, 0, none⟩) (Kd.R_types HO298.out BK303.out (by decide)) (fun _ hk => hk.2) (.int .i64 t294)) (fun _ hk => hk.2) (.int .i64 t295)) (fun _ hk => hk.2) (.slice Aox2i0 t296.length cox2i0)) (fun _ hk => hk.2) (.int .i64 t299)) (fun _ h_ => h_.1))) hb); have n3_ := Aside0.mk (Kd.R_lower ho126 (below_size (by repeat (first | (with_reducible first | exact HB.out | apply below_alloc | apply pw_below_drewN | apply below_drew1 | refine below_set ?_ GE290.out | refine below_set ?_ GE303.out) | exact HB.out)))); have n4_ := Aside0.mk (blk_below (g := gb290) (o := .cells #[.int .i64 0, .int .i64 0, .slice Aox11i0 y287.length cox11i0, .int .i64 0] 26 (0, 0)) (by (with_reducible repeat (first | refine blk_drewN ?_ _ | refine blk_drew ?_ | refine blk_alloc ?_ _)); refine blk_far ?_ NB290_303.out _; (with_reducible repeat (first | refine blk_drewN ?_ _ | refine blk_drew ?_ | refine blk_alloc ?_ _)); refine blk_far ?_ NB290_303.out _; (with_reducible repeat (first | refine blk_drewN ?_ _ | refine blk_drew ?_ | refine blk_alloc ?_ _)); refine blk_far ?_ NB290_303.out _; (with_reducible repeat (first | refine blk_drewN ?_ _ | refine blk_drew ?_ | refine blk_alloc ?_ _)); refine blk_far ?_ NB290_303.out _; (with_reducible repeat (first | refine blk_drewN ?_ _ | refine blk_drew ?_ | refine blk_alloc ?_ _)); exact BK290.out) hb); have n5_ := Aside0.mk (blk_below (g := gb303) (o := .cells #[.int .i64 t294, .int .i64 t295, .slice Aox2i0 t296.length cox2i0, .int .i64 t299] 26 (0, 0)) (by (with_reducible repeat (first | refine blk_drewN ?_ _ | refine blk_drew ?_ | refine blk_alloc ?_ _)); refine blk_put (cs := #[.int .i64 t294, .int .i64 t295, .slice Aox2i0 t296.length cox2i0, .int .i64 0]) ?_ 3 _ rfl; (with_reducible repeat (first | refine blk_drewN ?_ _ | refine blk_drew ?_ | refine blk_alloc ?_ _)); refine blk_put (cs := #[.int .i64 t294, .int .i64 t295, .slice none 0 0, .int .i64 0]) ?_ 2 _ rfl; (with_reducible repeat (first | refine blk_drewN ?_ _ | refine blk_drew ?_ | refine blk_alloc ?_ _)); refine blk_put (cs := #[.int .i64 t294, .int .i64 0, .slice none 0 0, .int .i64 0]) ?_ 1 _ rfl; (with_reducible repeat (first | refine blk_drewN ?_ _ | refine blk_drew ?_ | refine blk_alloc ?_ _)); refine blk_put (cs := #[.int .i64 0, .int .i64 0, .slice none 0 0, .int .i64 0]) ?_ 0 _ rfl; (with_reducible repeat (first | refine blk_drewN ?_ _ | refine blk_drew ?_ | refine blk_alloc ?_ _)); exact BK303.out) hb); have n6_ := Aside0.mk (below_step (by repeat (first | (with_reducible first | exact HB.out | apply below_alloc | apply pw_below_drewN | apply below_drew1 | refine below_set ?_ GE290.out | refine below_set ?_ GE303.out) | exact HB.out)) hb); clear HO289; clear HO293; clear HO298; clear BK290; clear BK303; clear HB; have HO289 := n0_; have HO293 := n1_; have HO298 := n2_; have HO306 := n3_; have BK290 := n4_; have BK303 := n5_; have HB := n6_; clear n0_ n1_ n2_ n3_ n4_ n5_ n6_; clear hb ho126; obtain ⟨Aox25i0, cox25i0, eox25i0⟩ := Kd.R_slice HO306.out; subst eox25i0) | ((with_reducible refine gate_dst (N := 25) rfl ?_); (try (refine gate_guard (by rfl) ?_; dsimp only)); refine Kd.R_lit (Kd.int .i64) _ 3 ?hg (N := 25) ?hd (xs := ([3, 3, 1] : List Int)) (inner := [.int .i64 3, .int .i64 3, .int .i64 1]) (ok := fun _ => True) (okp := fun _ => True) ?hr ?hp (fun _ hk => hk) trivial (Below.refl _ _) (Nat.le_refl _) (by simp) ?_; (case hd => rfl); (case hg => rfl); (case hr => first | (go_simp; done) | (go_simp; rfl)); (case hp => exact (Reps.one (show Kd.M (Kd.int .i64) _ _ _ 3 [.int .i64 3] from rfl) (Reps.one (show Kd.M (Kd.int .i64) _ _ _ 3 [.int .i64 3] from rfl) (Reps.one (show Kd.M (Kd.int .i64) _ _ _ 1 [.int .i64 1] from rfl) (Reps.none _ _))))); intro v305 wx25i0 ho150 hb hg_ hnew_; clear hg_ hnew_; (first | rw [← Ny304.out] at ho150 | (simp only [Int.reduceToNat] at ho150; rw [← Ny304.out] at ho150)); have n0_ := Aside0.mk (Kd.R_below (by (with_reducible repeat (first | apply Kd.R_alloc | apply Kd.R_drewN | apply Kd.R_drew)); exact (Kd.R_mono (Kd.R_far (p := ⟨gb303, 3, none⟩) (Kd.R_far (p := ⟨gb303, 2, none⟩) (Kd.R_far (p := ⟨gb303, 1, none⟩) (Kd.R_far (p := ⟨gb303, 0, none⟩) (Kd.R_types HO289.out BK303.out (by decide)) (fun _ hk => hk.2) (.int .i64 t294)) (fun _ hk => hk.2) (.int .i64 t295)) (fun _ hk => hk.2) (.slice Aox2i0 t296.length cox2i0)) (fun _ hk => hk.2) (.int .i64 t299)) (fun _ h_ => h_.1))) hb); have n1_ := Aside0.mk (Kd.R_below (by (with_reducible repeat (first | apply Kd.R_alloc | apply Kd.R_drewN | apply Kd.R_drew)); exact (Kd.R_mono (Kd.R_far (p := ⟨gb303, 3, none⟩) (Kd.R_far (p := ⟨gb303, 2, none⟩) (Kd.R_far (p := ⟨gb303, 1, none⟩) (Kd.R_far (p := ⟨gb303, 0, none⟩) (Kd.R_types HO293.out BK303.out (by decide)) (fun _ hk => hk.2) (.int .i64 t294)) (fun _ hk => hk.2) (.int .i64 t295)) (fun _ hk => hk.2) (.slice Aox2i0 t296.length cox2i0)) (fun _ hk => hk.2) (.int .i64 t299)) (fun _ h_ => h_.1))) hb); have n2_ := Aside0.mk (Kd.R_below (by (with_reducible repeat (first | apply Kd.R_alloc | apply Kd.R_drewN | apply Kd.R_drew)); exact (Kd.R_mono (Kd.R_far (p := ⟨gb303, 3, none⟩) (Kd.R_far (p := ⟨gb303, 2, none⟩) (Kd.R_far (p := ⟨gb303, 1, none⟩) (Kd.R_far (p := ⟨gb303, 0, none⟩) (Kd.R_types HO298.out BK303.out (by decide)) (fun _ hk => hk.2) (.int .i64 t294)) (fun _ hk => hk.2) (.int .i64 t295)) (fun _ hk => hk.2) (.slice Aox2i0 t296.length cox2i0)) (fun _ hk => hk.2) (.int .i64 t299)) (fun _ h_ => h_.1))) hb); have n3_ := Aside0.mk (Kd.R_lower ho150 (below_size (by repeat (first | (with_reducible first | exact HB.out | apply below_alloc | apply pw_below_drewN | apply below_drew1 | refine below_set ?_ GE290.out | refine below_set ?_ GE303.out) | exact HB.out)))); have n4_ := Aside0.mk (blk_below (g := gb290) (o := .cells #[.int .i64 0, .int .i64 0, .slice Aox11i0 y287.length cox11i0, .int .i64 0] 26 (0, 0)) (by (with_reducible repeat (first | refine blk_drewN ?_ _ | refine blk_drew ?_ | refine blk_alloc ?_ _)); refine blk_far ?_ NB290_303.out _; (with_reducible repeat (first | refine blk_drewN ?_ _ | refine blk_drew ?_ | refine blk_alloc ?_ _)); refine blk_far ?_ NB290_303.out _; (with_reducible repeat (first | refine blk_drewN ?_ _ | refine blk_drew ?_ | refine blk_alloc ?_ _)); refine blk_far ?_ NB290_303.out _; (with_reducible repeat (first | refine blk_drewN ?_ _ | refine blk_drew ?_ | refine blk_alloc ?_ _)); refine blk_far ?_ NB290_303.out _; (with_reducible repeat (first | refine blk_drewN ?_ _ | refine blk_drew ?_ | refine blk_alloc ?_ _)); exact BK290.out) hb); have n5_ := Aside0.mk (blk_below (g := gb303) (o := .cells #[.int .i64 t294, .int .i64 t295, .slice Aox2i0 t296.length cox2i0, .int .i64 t299] 26 (0, 0)) (by (with_reducible repeat (first | refine blk_drewN ?_ _ | refine blk_drew ?_ | refine blk_alloc ?_ _)); refine blk_put (cs := #[.int .i64 t294, .int .i64 t295, .slice Aox2i0 t296.length cox2i0, .int .i64 0]) ?_ 3 _ rfl; (with_reducible repeat (first | refine blk_drewN ?_ _ | refine blk_drew ?_ | refine blk_alloc ?_ _)); refine blk_put (cs := #[.int .i64 t294, .int .i64 t295, .slice none 0 0, .int .i64 0]) ?_ 2 _ rfl; (with_reducible repeat (first | refine blk_drewN ?_ _ | refine blk_drew ?_ | refine blk_alloc ?_ _)); refine blk_put (cs := #[.int .i64 t294, .int .i64 0, .slice none 0 0, .int .i64 0]) ?_ 1 _ rfl; (with_reducible repeat (first | refine blk_drewN ?_ _ | refine blk_drew ?_ | refine blk_alloc ?_ _)); refine blk_put (cs := #[.int .i64 0, .int .i64 0, .slice none 0 0, .int .i64 0]) ?_ 0 _ rfl; (with_reducible repeat (first | refine blk_drewN ?_ _ | refine blk_drew ?_ | refine blk_alloc ?_ _)); exact BK303.out) hb); have n6_ := Aside0.mk (below_step (by repeat (first | (with_reducible first | exact HB.out | apply below_alloc | apply pw_below_drewN | apply below_drew1 | refine below_set ?_ GE290.out | refine below_set ?_ GE303.out) | exact HB.out)) hb); clear HO289; clear HO293; clear HO298; clear BK290; clear BK303; clear HB; have HO289 := n0_; have HO293 := n1_; have HO298 := n2_; have HO306 := n3_; have BK290 := n4_; have BK303 := n5_; have HB := n6_; clear n0_ n1_ n2_ n3_ n4_ n5_ n6_; clear hb ho150; obtain ⟨Aox25i0, cox25i0, eox25i0⟩ := Kd.R_slice HO306.out; subst eox25i0) | ((with_reducible refine gate_dst (N := 25) rfl ?_); (try (refine gate_guard (by rfl) ?_; dsimp only)); refine Kd.R_lit (Kd.int .i64) _ 3 ?hg (N := 25) ?hd (xs := ([3, 3, 1] : List Int)) (inner := [.int .i64 3, .int .i64 3, .int .i64 1]) (ok := fun _ => True) (okp := fun _ => True) ?hr ?hp (fun _ hk => hk) trivial (Below.refl _ _) (Nat.le_refl _) (by simp) ?_; (case hd => rfl); (case hg => rfl); (case hr => first | (go_simp; done) | (go_simp; rfl)); (case hp => exact (Reps.one (show Kd.M (Kd.int .i64) _ _ _ 3 [.int .i64 3] from rfl) (Reps.one (show Kd.M (Kd.int .i64) _ _ _ 3 [.int .i64 3] from rfl) (Reps.one (show Kd.M (Kd.int .i64) _ _ _ 1 [.int .i64 1] from rfl) (Reps.none _ _))))); intro v305 wx25i0 ho174 hb hg_ hnew_; clear hg_ hnew_; (first | rw [← Ny304.out] at ho174 | (simp only [Int.reduceToNat] at ho174; rw [← Ny304.out] at ho174)); have n0_ := Aside0.mk (Kd.R_below (by (with_reducible repeat (first | apply Kd.R_alloc | apply Kd.R_drewN | apply Kd.R_drew)); exact (Kd.R_mono (Kd.R_far (p := ⟨gb303, 3, none⟩) (Kd.R_far (p := ⟨gb303, 2, none⟩) (Kd.R_far (p := ⟨gb303, 1, none⟩) (Kd.R_far (p := ⟨gb303, 0, none⟩) (Kd.R_types HO289.out BK303.out (by decide)) (fun _ hk => hk.2) (.int .i64 t294)) (fun _ hk => hk.2) (.int .i64 t295)) (fun _ hk => hk.2) (.slice Aox2i0 t296.length cox2i0)) (fun _ hk => hk.2) (.int .i64 t299)) (fun _ h_ => h_.1))) hb); have n1_ := Aside0.mk (Kd.R_below (by (with_reducible repeat (first | apply Kd.R_alloc | apply Kd.R_drewN | apply Kd.R_drew)); exact (Kd.R_mono (Kd.R_far (p := ⟨gb303, 3, none⟩) (Kd.R_far (p := ⟨gb303, 2, none⟩) (Kd.R_far (p := ⟨gb303, 1, none⟩) (Kd.R_far (p := ⟨gb303, 0, none⟩) (Kd.R_types HO293.out BK303.out (by decide)) (fun _ hk => hk.2) (.int .i64 t294)) (fun _ hk => hk.2) (.int .i64 t295)) (fun _ hk => hk.2) (.slice Aox2i0 t296.length cox2i0)) (fun _ hk => hk.2) (.int .i64 t299)) (fun _ h_ => h_.1))) hb); have n2_ := Aside0.mk (Kd.R_below (by (with_reducible repeat (first | apply Kd.R_alloc | apply Kd.R_drewN | apply Kd.R_drew)); exact (Kd.R_mono (Kd.R_far (p := ⟨gb303, 3, none⟩) (Kd.R_far (p := ⟨gb303, 2, none⟩) (Kd.R_far (p := ⟨gb303, 1, none⟩) (Kd.R_far (p := ⟨gb303, 0, none⟩) (Kd.R_types HO298.out BK303.out (by decide)) (fun _ hk => hk.2) (.int .i64 t294)) (fun _ hk => hk.2) (.int .i64 t295)) (fun _ hk => hk.2) (.slice Aox2i0 t296.length cox2i0)) (fun _ hk => hk.2) (.int .i64 t299)) (fun _ h_ => h_.1))) hb); have n3_ := Aside0.mk (Kd.R_lower ho174 (below_size (by repeat (first | (with_reducible first | exact HB.out | apply below_alloc | apply pw_below_drewN | apply below_drew1 | refine below_set ?_ GE290.out | refine below_set ?_ GE303.out) | exact HB.out)))); have n4_ := Aside0.mk (blk_below (g := gb290) (o := .cells #[.int .i64 0, .int .i64 0, .slice Aox11i0 y287.length cox11i0, .int .i64 0] 26 (0, 0)) (by (with_reducible repeat (first | refine blk_drewN ?_ _ | refine blk_drew ?_ | refine blk_alloc ?_ _)); refine blk_far ?_ NB290_303.out _; (with_reducible repeat (first | refine blk_drewN ?_ _ | refine blk_drew ?_ | refine blk_alloc ?_ _)); refine blk_far ?_ NB290_303.out _; (with_reducible repeat (first | refine blk_drewN ?_ _ | refine blk_drew ?_ | refine blk_alloc ?_ _)); refine blk_far ?_ NB290_303.out _; (with_reducible repeat (first | refine blk_drewN ?_ _ | refine blk_drew ?_ | refine blk_alloc ?_ _)); refine blk_far ?_ NB290_303.out _; (with_reducible repeat (first | refine blk_drewN ?_ _ | refine blk_drew ?_ | refine blk_alloc ?_ _)); exact BK290.out) hb); have n5_ := Aside0.mk (blk_below (g := gb303) (o := .cells #[.int .i64 t294, .int .i64 t295, .slice Aox2i0 t296.length cox2i0, .int .i64 t299] 26 (0, 0)) (by (with_reducible repeat (first | refine blk_drewN ?_ _ | refine blk_drew ?_ | refine blk_alloc ?_ _)); refine blk_put (cs := #[.int .i64 t294, .int .i64 t295, .slice Aox2i0 t296.length cox2i0, .int .i64 0]) ?_ 3 _ rfl; (with_reducible repeat (first | refine blk_drewN ?_ _ | refine blk_drew ?_ | refine blk_alloc ?_ _)); refine blk_put (cs := #[.int .i64 t294, .int .i64 t295, .slice none 0 0, .int .i64 0]) ?_ 2 _ rfl; (with_reducible repeat (first | refine blk_drewN ?_ _ | refine blk_drew ?_ | refine blk_alloc ?_ _)); refine blk_put (cs := #[.int .i64 t294, .int .i64 0, .slice none 0 0, .int .i64 0]) ?_ 1 _ rfl; (with_reducible repeat (first | refine blk_drewN ?_ _ | refine blk_drew ?_ | refine blk_alloc ?_ _)); refine blk_put (cs := #[.int .i64 0, .int .i64 0, .slice none 0 0, .int .i64 0]) ?_ 0 _ rfl; (with_reducible repeat (first | refine blk_drewN ?_ _ | refine blk_drew ?_ | refine blk_alloc ?_ _)); exact BK303.out) hb); have n6_ := Aside0.mk (below_step (by repeat (first | (with_reducible first | exact HB.out | apply below_alloc | apply pw_below_drewN | apply below_drew1 | refine below_set ?_ GE290.out | refine below_set ?_ GE303.out) | exact HB.out)) hb); clear HO289; clear HO293; clear HO298; clear BK290; clear BK303; clear HB; have HO289 := n0_; have HO293 := n1_; have HO298 := n2_; have HO306 := n3_; have BK290 := n4_; have BK303 := n5_; have HB := n6_; clear n0_ n1_ n2_ n3_ n4_ n5_ n6_; clear hb ho174; obtain ⟨Aox25i0, cox25i0, eox25i0⟩ := Kd.R_slice HO306.out; subst eox25i0) | ((with_reducible refine gate_dst (N := 25) rfl ?_); (try (refine gate_guard (by rfl) ?_; dsimp only)); refine Kd.R_lit (Kd.int .i64) _ 3 ?hg (N := 25) ?hd (xs := ([3, 3, 1] : List Int)) (inner := [.int .i64 3, .int .i64 3, .int .i64 1]) (ok := fun _ => True) (okp := fun _ => True) ?hr ?hp (fun _ hk => hk) trivial (Below.refl _ _) (Nat.le_refl _) (by simp) ?_; (case hd => rfl); (case hg => rfl); (case hr => first | (go_simp; done) | (go_simp; rfl)); (case hp => exact (Reps.one (show Kd.M (Kd.int .i64) _ _ _ 3 [.int .i64 3] from rfl) (Reps.one (show Kd.M (Kd.int .i64) _ _ _ 3 [.int .i64 3] from rfl) (Reps.one (show Kd.M (Kd.int .i64) _ _ _ 1 [.int .i64 1] from rfl) (Reps.none _ _))))); intro v305 wx25i0 ho197 hb hg_ hnew_; clear hg_ hnew_; (first | rw [← Ny304.out] at ho197 | (simp only [Int.reduceToNat] at ho197; rw [← Ny304.out] at ho197)); have n0_ := Aside0.mk (Kd.R_below (by (with_reducible repeat (first | apply Kd.R_alloc | apply Kd.R_drewN | apply Kd.R_drew)); exact (Kd.R_mono (Kd.R_far (p := ⟨gb303, 3, none⟩) (Kd.R_far (p := ⟨gb303, 2, none⟩) (Kd.R_far (p := ⟨gb303, 1, none⟩) (Kd.R_far (p := ⟨gb303, 0, none⟩) (Kd.R_types HO289.out BK303.out (by decide)) (fun _ hk => hk.2) (.int .i64 t294)) (fun _ hk => hk.2) (.int .i64 t295)) (fun _ hk => hk.2) (.slice Aox2i0 t296.length cox2i0)) (fun _ hk => hk.2) (.int .i64 t299)) (fun _ h_ => h_.1))) hb); have n1_ := Aside0.mk (Kd.R_below (by (with_reducible repeat (first | apply Kd.R_alloc | apply Kd.R_drewN | apply Kd.R_drew)); exact (Kd.R_mono (Kd.R_far (p := ⟨gb303, 3, none⟩) (Kd.R_far (p := ⟨gb303, 2, none⟩) (Kd.R_far (p := ⟨gb303, 1, none⟩) (Kd.R_far (p := ⟨gb303, 0, none⟩) (Kd.R_types HO293.out BK303.out (by decide)) (fun _ hk => hk.2) (.int .i64 t294)) (fun _ hk => hk.2) (.int .i64 t295)) (fun _ hk => hk.2) (.slice Aox2i0 t296.length cox2i0)) (fun _ hk => hk.2) (.int .i64 t299)) (fun _ h_ => h_.1))) hb); have n2_ := Aside0.mk (Kd.R_below (by (with_reducible repeat (first | apply Kd.R_alloc | apply Kd.R_drewN | apply Kd.R_drew)); exact (Kd.R_mono (Kd.R_far (p := ⟨gb303, 3, none⟩) (Kd.R_far (p := ⟨gb303, 2, none⟩) (Kd.R_far (p := ⟨gb303, 1, none⟩) (Kd.R_far (p := ⟨gb303, 0, none⟩) (Kd.R_types HO298.out BK303.out (by decide)) (fun _ hk => hk.2) (.int .i64 t294)) (fun _ hk => hk.2) (.int .i64 t295)) (fun _ hk => hk.2) (.slice Aox2i0 t296.length cox2i0)) (fun _ hk => hk.2) (.int .i64 t299)) (fun _ h_ => h_.1))) hb); have n3_ := Aside0.mk (Kd.R_lower ho197 (below_size (by repeat (first | (with_reducible first | exact HB.out | apply below_alloc | apply pw_below_drewN | apply below_drew1 | refine below_set ?_ GE290.out | refine below_set ?_ GE303.out) | exact HB.out)))); have n4_ := Aside0.mk (blk_below (g := gb290) (o := .cells #[.int .i64 0, .int .i64 0, .slice Aox11i0 y287.length cox11i0, .int .i64 0] 26 (0, 0)) (by (with_reducible repeat (first | refine blk_drewN ?_ _ | refine blk_drew ?_ | refine blk_alloc ?_ _)); refine blk_far ?_ NB290_303.out _; (with_reducible repeat (first | refine blk_drewN ?_ _ | refine blk_drew ?_ | refine blk_alloc ?_ _)); refine blk_far ?_ NB290_303.out _; (with_reducible repeat (first | refine blk_drewN ?_ _ | refine blk_drew ?_ | refine blk_alloc ?_ _)); refine blk_far ?_ NB290_303.out _; (with_reducible repeat (first | refine blk_drewN ?_ _ | refine blk_drew ?_ | refine blk_alloc ?_ _)); refine blk_far ?_ NB290_303.out _; (with_reducible repeat (first | refine blk_drewN ?_ _ | refine blk_drew ?_ | refine blk_alloc ?_ _)); exact BK290.out) hb); have n5_ := Aside0.mk (blk_below (g := gb303) (o := .cells #[.int .i64 t294, .int .i64 t295, .slice Aox2i0 t296.length cox2i0, .int .i64 t299] 26 (0, 0)) (by (with_reducible repeat (first | refine blk_drewN ?_ _ | refine blk_drew ?_ | refine blk_alloc ?_ _)); refine blk_put (cs := #[.int .i64 t294, .int .i64 t295, .slice Aox2i0 t296.length cox2i0, .int .i64 0]) ?_ 3 _ rfl; (with_reducible repeat (first | refine blk_drewN ?_ _ | refine blk_drew ?_ | refine blk_alloc ?_ _)); refine blk_put (cs := #[.int .i64 t294, .int .i64 t295, .slice none 0 0, .int .i64 0]) ?_ 2 _ rfl; (with_reducible repeat (first | refine blk_drewN ?_ _ | refine blk_drew ?_ | refine blk_alloc ?_ _)); refine blk_put (cs := #[.int .i64 t294, .int .i64 0, .slice none 0 0, .int .i64 0]) ?_ 1 _ rfl; (with_reducible repeat (first | refine blk_drewN ?_ _ | refine blk_drew ?_ | refine blk_alloc ?_ _)); refine blk_put (cs := #[.int .i64 0, .int .i64 0, .slice none 0 0, .int .i64 0]) ?_ 0 _ rfl; (with_reducible repeat (first | refine blk_drewN ?_ _ | refine blk_drew ?_ | refine blk_alloc ?_ _)); exact BK303.out) hb); have n6_ := Aside0.mk (below_step (by repeat (first | (with_reducible first | exact HB.out | apply below_alloc | apply pw_below_drewN | apply below_drew1 | refine below_set ?_ GE290.out | refine below_set ?_ GE303.out) | exact HB.out)) hb); clear HO289; clear HO293; clear HO298; clear BK290; clear BK303; clear HB; have HO289 := n0_; have HO293 := n1_; have HO298 := n2_; have HO306 := n3_; have BK290 := n4_; have BK303 := n5_; have HB := n6_; clear n0_ n1_ n2_ n3_ n4_ n5_ n6_; clear hb ho197; obtain ⟨Aox25i0, cox25i0, eox25i0⟩ := Kd.R_slice HO306.out; subst eox25i0) | ((with_reducible refine gate_dst (N := 25) rfl ?_); (try (refine gate_guard (by rfl) ?_; dsimp only)); refine Kd.R_lit (Kd.int .i64) _ 3 ?hg (N := 25) ?hd (xs := ([3, 3, 1] : List Int)) (inner := [.int .i64 3, .int .i64 3, .int .i64 1]) (ok := fun _ => True) (okp := fun _ => True) ?hr ?hp (fun _ hk => hk) trivial (Below.refl _ _) (Nat.le_refl _) (by simp) ?_; (case hd => rfl); (case hg => rfl); (case hr => first | (go_simp; done) | (go_simp; rfl)); (case hp => exact (Reps.one (show Kd.M (Kd.int .i64) _ _ _ 3 [.int .i64 3] from rfl) (Reps.one (show Kd.M (Kd.int .i64) _ _ _ 3 [.int .i64 3] from rfl) (Reps.one (show Kd.M (Kd.int .i64) _ _ _ 1 [.int .i64 1] from rfl) (Reps.none _ _))))); intro v305 wx25i0 ho220 hb hg_ hnew_; clear hg_ hnew_; (first | rw [← Ny304.out] at ho220 | (simp only [Int.reduceToNat] at ho220; rw [← Ny304.out] at ho220)); have n0_ := Aside0.mk (Kd.R_below (by (with_reducible repeat (first | apply Kd.R_alloc | apply Kd.R_drewN | apply Kd.R_drew)); exact (Kd.R_mono (Kd.R_far (p := ⟨gb303, 3, none⟩) (Kd.R_far (p := ⟨gb303, 2, none⟩) (Kd.R_far (p := ⟨gb303, 1, none⟩) (Kd.R_far (p := ⟨gb303, 0, none⟩) (Kd.R_types HO289.out BK303.out (by decide)) (fun _ hk => hk.2) (.int .i64 t294)) (fun _ hk => hk.2) (.int .i64 t295)) (fun _ hk => hk.2) (.slice Aox2i0 t296.length cox2i0)) (fun _ hk => hk.2) (.int .i64 t299)) (fun _ h_ => h_.1))) hb); have n1_ := Aside0.mk (Kd.R_below (by (with_reducible repeat (first | apply Kd.R_alloc | apply Kd.R_drewN | apply Kd.R_drew)); exact (Kd.R_mono (Kd.R_far (p := ⟨gb303, 3, none⟩) (Kd.R_far (p := ⟨gb303, 2, none⟩) (Kd.R_far (p := ⟨gb303, 1, none⟩) (Kd.R_far (p := ⟨gb303, 0, none⟩) (Kd.R_types HO293.out BK303.out (by decide)) (fun _ hk => hk.2) (.int .i64 t294)) (fun _ hk => hk.2) (.int .i64 t295)) (fun _ hk => hk.2) (.slice Aox2i0 t296.length cox2i0)) (fun _ hk => hk.2) (.int .i64 t299)) (fun _ h_ => h_.1))) hb); have n2_ := Aside0.mk (Kd.R_below (by (with_reducible repeat (first | apply Kd.R_alloc | apply Kd.R_drewN | apply Kd.R_drew)); exact (Kd.R_mono (Kd.R_far (p := ⟨gb303, 3, none⟩) (Kd.R_far (p := ⟨gb303, 2, none⟩) (Kd.R_far (p := ⟨gb303, 1, none⟩) (Kd.R_far (p := ⟨gb303, 0, none⟩) (Kd.R_types HO298.out BK303.out (by decide)) (fun _ hk => hk.2) (.int .i64 t294)) (fun _ hk => hk.2) (.int .i64 t295)) (fun _ hk => hk.2) (.slice Aox2i0 t296.length cox2i0)) (fun _ hk => hk.2) (.int .i64 t299)) (fun _ h_ => h_.1))) hb); have n3_ := Aside0.mk (Kd.R_lower ho220 (below_size (by repeat (first | (with_reducible first | exact HB.out | apply below_alloc | apply pw_below_drewN | apply below_drew1 | refine below_set ?_ GE290.out | refine below_set ?_ GE303.out) | exact HB.out)))); have n4_ := Aside0.mk (blk_below (g := gb290) (o := .cells #[.int .i64 0, .int .i64 0, .slice Aox11i0 y287.length cox11i0, .int .i64 0] 26 (0, 0)) (by (with_reducible repeat (first | refine blk_drewN ?_ _ | refine blk_drew ?_ | refine blk_alloc ?_ _)); refine blk_far ?_ NB290_303.out _; (with_reducible repeat (first | refine blk_drewN ?_ _ | refine blk_drew ?_ | refine blk_alloc ?_ _)); refine blk_far ?_ NB290_303.out _; (with_reducible repeat (first | refine blk_drewN ?_ _ | refine blk_drew ?_ | refine blk_alloc ?_ _)); refine blk_far ?_ NB290_303.out _; (with_reducible repeat (first | refine blk_drewN ?_ _ | refine blk_drew ?_ | refine blk_alloc ?_ _)); refine blk_far ?_ NB290_303.out _; (with_reducible repeat (first | refine blk_drewN ?_ _ | refine blk_drew ?_ | refine blk_alloc ?_ _)); exact BK290.out) hb); have n5_ := Aside0.mk (blk_below (g := gb303) (o := .cells #[.int .i64 t294, .int .i64 t295, .slice Aox2i0 t296.length cox2i0, .int .i64 t299] 26 (0, 0)) (by (with_reducible repeat (first | refine blk_drewN ?_ _ | refine blk_drew ?_ | refine blk_alloc ?_ _)); refine blk_put (cs := #[.int .i64 t294, .int .i64 t295, .slice Aox2i0 t296.length cox2i0, .int .i64 0]) ?_ 3 _ rfl; (with_reducible repeat (first | refine blk_drewN ?_ _ | refine blk_drew ?_ | refine blk_alloc ?_ _)); refine blk_put (cs := #[.int .i64 t294, .int .i64 t295, .slice none 0 0, .int .i64 0]) ?_ 2 _ rfl; (with_reducible repeat (first | refine blk_drewN ?_ _ | refine blk_drew ?_ | refine blk_alloc ?_ _)); refine blk_put (cs := #[.int .i64 t294, .int .i64 0, .slice none 0 0, .int .i64 0]) ?_ 1 _ rfl; (with_reducible repeat (first | refine blk_drewN ?_ _ | refine blk_drew ?_ | refine blk_alloc ?_ _)); refine blk_put (cs := #[.int .i64 0, .int .i64 0, .slice none 0 0, .int .i64 0]) ?_ 0 _ rfl; (with_reducible repeat (first | refine blk_drewN ?_ _ | refine blk_drew ?_ | refine blk_alloc ?_ _)); exact BK303.out) hb); have n6_ := Aside0.mk (below_step (by repeat (first | (with_reducible first | exact HB.out | apply below_alloc | apply pw_below_drewN | apply below_drew1 | refine below_set ?_ GE290.out | refine below_set ?_ GE303.out) | exact HB.out)) hb); clear HO289; clear HO293; clear HO298; clear BK290; clear BK303; clear HB; have HO289 := n0_; have HO293 := n1_; have HO298 := n2_; have HO306 := n3_; have BK290 := n4_; have BK303 := n5_; have HB := n6_; clear n0_ n1_ n2_ n3_ n4_ n5_ n6_; clear hb ho220; obtain ⟨Aox25i0, cox25i0, eox25i0⟩ := Kd.R_slice HO306.out; subst eox25i0) | ((with_reducible refine gate_callee (f := 25) rfl ?_); refine goesL_ (some 26) rfl rfl Try.func25 (by kernel_rfl) rfl #[.agg #[.int .i64 0, .int .i64 0, .slice Aox11i0 y287.length cox11i0, .int .i64 0], .int .i64 2, .slice Aox25i0 y304.length cox25i0] rfl (by (try simp only [List.map_toArray, List.map_cons, List.map_nil]); first | done | rfl | (simp only [List.length_drop, List.length_take]; rfl)) ?_; (with_reducible refine (entries_Advance.calls k 0 0 _ _ y287 0 2 _ _ y304 t307 t308 t309 t312 t313 _ ?side1 ?side2 ?side3 ?side4 A2.out).mono ?_); (case side1 => repeat (first | exact (Kd.R_reads' HO289.out).2.2 | (with_reducible refine Kd.C_alloc ?_ _) | (with_reducible refine Kd.C_drewN ?_ _) | (with_reducible refine Kd.C_drew ?_))); (case side2 => exact (Kd.R_reads' HO289.out).2.1); (case side3 => repeat (first | exact (Kd.R_reads' HO306.out).2.2 | (with_reducible refine Kd.C_alloc ?_ _) | (with_reducible refine Kd.C_drewN ?_ _) | (with_reducible refine Kd.C_drew ?_))); (case side4 => exact (Kd.R_reads' HO306.out).2.1); rintro e wx26i0 ⟨v310, rfl, ho0, hb⟩; refine ⟨_, rfl, ?_⟩; have n0_ := Aside0.mk (Kd.R_elder' (by (with_reducible repeat (first | apply Kd.R_alloc | apply Kd.R_drewN | apply Kd.R_drew)); exact HO289.out) (Kd.R_base ho0) hb); have n1_ := Aside0.mk (Kd.R_elder' (by (with_reducible repeat (first | apply Kd.R_alloc | apply Kd.R_drewN | apply Kd.R_drew)); exact HO293.out) (Kd.R_base ho0) hb); have n2_ := Aside0.mk (Kd.R_elder' (by (with_reducible repeat (first | apply Kd.R_alloc | apply Kd.R_drewN | apply Kd.R_drew)); exact HO298.out) (Kd.R_base ho0) hb); have n3_ := Aside0.mk (Kd.R_below (by (with_reducible repeat (first | apply Kd.R_alloc | apply Kd.R_drewN | apply Kd.R_drew)); exact HO306.out) hb); have n4_ := Aside0.mk (Kd.R_lower (Kd.R_new' (Kd.R_new' (Kd.R_new' ho0 (Kd.R_lt (by (with_reducible repeat (first | apply Kd.R_alloc | apply Kd.R_drewN | apply Kd.R_drew)); exact HO289.out))) (Kd.R_lt (by (with_reducible repeat (first | apply Kd.R_alloc | apply Kd.R_drewN | apply Kd.R_drew)); exact HO293.out))) (Kd.R_lt (by (with_reducible repeat (first | apply Kd.R_alloc | apply Kd.R_drewN | apply Kd.R_drew)); exact HO298.out))) (below_size (by repeat (first | (with_reducible first | exact HB.out | apply below_alloc | apply pw_below_drewN | apply below_drew1 | refine below_set ?_ GE290.out | refine below_set ?_ GE303.out) | exact HB.out)))); have n5_ := Aside0.mk (blk_below (g := gb290) (o := .cells #[.int .i64 0, .int .i64 0, .slice Aox11i0 y287.length cox11i0, .int .i64 0] 26 (0, 0)) (by (with_reducible repeat (first | refine blk_drewN ?_ _ | refine blk_drew ?_ | refine blk_alloc ?_ _)); exact BK290.out) hb); have n6_ := Aside0.mk (blk_below (g := gb303) (o := .cells #[.int .i64 t294, .int .i64 t295, .slice Aox2i0 t296.length cox2i0, .int .i64 t299] 26 (0, 0)) (by (with_reducible repeat (first | refine blk_drewN ?_ _ | refine blk_drew ?_ | refine blk_alloc ?_ _)); exact BK303.out) hb); have n7_ := Aside0.mk (below_step (by repeat (first | (with_reducible first | exact HB.out | apply below_alloc | apply pw_below_drewN | apply below_drew1 | refine below_set ?_ GE290.out | refine below_set ?_ GE303.out) | exact HB.out)) hb); clear HO289; clear HO293; clear HO298; clear HO306; clear BK290; clear BK303; clear HB; have HO289 := n0_; have HO293 := n1_; have HO298 := n2_; have HO306 := n3_; have HO311 := n4_; have BK290 := n5_; have BK303 := n6_; have HB := n7_; clear n0_ n1_ n2_ n3_ n4_ n5_ n6_ n7_; (try clear hb); (try clear hb2); (try clear hk); (try clear hi); (try clear ho0)) | ((with_reducible refine gate_dst (N := 6) rfl ?_); (try (refine gate_guard (by rfl) ?_; dsimp only)); refine box_event ?hg (N := 6) ?hd (cs := #[.int .i64 0, .int .i64 0, .slice none 0 0, .int .i64 0]) (t := 26) ?hr ?_; (case hd => rfl); (case hg => rfl); (case hr => first | (go_simp; done) | (go_simp; rfl)); intro gb314 hg wx6i0 hbox hb; have n0_ := Aside0.mk (Kd.R_below (by (with_reducible repeat (first | apply Kd.R_alloc | apply Kd.R_drewN | apply Kd.R_drew)); exact HO289.out) hb); have n1_ := Aside0.mk (Kd.R_below (by (with_reducible repeat (first | apply Kd.R_alloc | apply Kd.R_drewN | apply Kd.R_drew)); exact HO293.out) hb); have n2_ := Aside0.mk (Kd.R_below (by (with_reducible repeat (first | apply Kd.R_alloc | apply Kd.R_drewN | apply Kd.R_drew)); exact HO298.out) hb); have n3_ := Aside0.mk (Kd.R_below (by (with_reducible repeat (first | apply Kd.R_alloc | apply Kd.R_drewN | apply Kd.R_drew)); exact HO306.out) hb); have n4_ := Aside0.mk (Kd.R_below (by (with_reducible repeat (first | apply Kd.R_alloc | apply Kd.R_drewN | apply Kd.R_drew)); exact HO311.out) hb); have n5_ := Aside0.mk (blk_below (g := gb290) (o := .cells #[.int .i64 0, .int .i64 0, .slice Aox11i0 y287.length cox11i0, .int .i64 0] 26 (0, 0)) (by (with_reducible repeat (first | refine blk_drewN ?_ _ | refine blk_drew ?_ | refine blk_alloc ?_ _)); exact BK290.out) hb); have n6_ := Aside0.mk (blk_below (g := gb303) (o := .cells #[.int .i64 t294, .int .i64 t295, .slice Aox2i0 t296.length cox2i0, .int .i64 t299] 26 (0, 0)) (by (with_reducible repeat (first | refine blk_drewN ?_ _ | refine blk_drew ?_ | refine blk_alloc ?_ _)); exact BK303.out) hb); have n7_ := Aside0.mk (below_step (by repeat (first | (with_reducible first | exact HB.out | apply below_alloc | apply pw_below_drewN | apply below_drew1 | refine below_set ?_ GE290.out | refine below_set ?_ GE303.out) | exact HB.out)) hb); have n8_ := Aside0.mk (hbox); have n9_ := Aside0.mk ((by rw [hg]; exact (below_size (by repeat (first | (with_reducible first | exact HB.out | apply below_alloc | apply pw_below_drewN | apply below_drew1 | refine below_set ?_ GE290.out | refine below_set ?_ GE303.out) | exact HB.out))) : w.heap.size ≤ gb314)); have n10_ := Aside0.mk ((by rw [hg]; exact (below_size (by repeat (first | (with_reducible first | exact HB.out | apply below_alloc | apply pw_below_drewN | apply below_drew1 | refine below_set ?_ GE290.out | refine below_set ?_ GE303.out) | exact HB.out))) : w.heap.size ≤ gb314)); have n11_ := Aside0.mk ((by rw [hg]; exact Nat.ne_of_lt (blk_lt (g := gb290) (o := .cells #[.int .i64 0, .int .i64 0, .slice Aox11i0 y287.length cox11i0, .int .i64 0] 26 (0, 0)) (by (with_reducible repeat (first | refine blk_drewN ?_ _ | refine blk_drew ?_ | refine blk_alloc ?_ _)); exact BK290.out)) : gb290 ≠ gb314)); have n12_ := Aside0.mk ((by rw [hg]; exact Nat.ne_of_gt (blk_lt (g := gb290) (o := .cells #[.int .i64 0, .int .i64 0, .slice Aox11i0 y287.length cox11i0, .int .i64 0] 26 (0, 0)) (by (with_reducible repeat (first | refine blk_drewN ?_ _ | refine blk_drew ?_ | refine blk_alloc ?_ _)); exact BK290.out)) : gb314 ≠ gb290)); have n13_ := Aside0.mk ((by rw [hg]; exact Nat.ne_of_lt (blk_lt (g := gb303) (o := .cells #[.int .i64 t294, .int .i64 t295, .slice Aox2i0 t296.length cox2i0, .int .i64 t299] 26 (0, 0)) (by (with_reducible repeat (first | refine blk_drewN ?_ _ | refine blk_drew ?_ | refine blk_alloc ?_ _)); exact BK303.out)) : gb303 ≠ gb314)); have n14_ := Aside0.mk ((by rw [hg]; exact Nat.ne_of_gt (blk_lt (g := gb303) (o := .cells #[.int .i64 t294, .int .i64 t295, .slice Aox2i0 t296.length cox2i0, .int .i64 t299] 26 (0, 0)) (by (with_reducible repeat (first | refine blk_drewN ?_ _ | refine blk_drew ?_ | refine blk_alloc ?_ _)); exact BK303.out)) : gb314 ≠ gb303)); clear HO289; clear HO293; clear HO298; clear HO306; clear HO311; clear BK290; clear BK303; clear HB; have HO289 := n0_; have HO293 := n1_; have HO298 := n2_; have HO306 := n3_; have HO311 := n4_; have BK290 := n5_; have BK303 := n6_; have HB := n7_; have BK314 := n8_; have GW314 := n9_; have GE314 := n10_; have NB290_314 := n11_; have NB314_290 := n12_; have NB303_314 := n13_; have NB314_303 := n14_; clear n0_ n1_ n2_ n3_ n4_ n5_ n6_ n7_ n8_ n9_ n10_ n11_ n12_ n13_ n14_; clear hb hbox hg; have hnbx6b314_290 := NB314_290.out; have hncx6b290_314 := NB290_314.out; have hnbx6b314_303 := NB314_303.out; have hncx6b303_314 := NB303_314.out; have hczx6b314_0 : wx6i0.cell? ⟨gb314, 0, none⟩ = some (.int .i64 0) := (blk_cell BK314.out 0).trans rfl; have hczx6b314_1 : wx6i0.cell? ⟨gb314, 1, none⟩ = some (.int .i64 0) := (blk_cell BK314.out 1).trans rfl; have hczx6b314_2 : wx6i0.cell? ⟨gb314, 2, none⟩ = some (.slice none 0 0) := (blk_cell BK314.out 2).trans rfl; have hczx6b314_3 : wx6i0.cell? ⟨gb314, 3, none⟩ = some (.int .i64 0) := (blk_cell BK314.out 3).trans rfl; have hfzx6b314_0 := blk_frozen BK314.out 0; have hfzx6b314_1 := blk_frozen BK314.out 1; have hfzx6b314_2 := blk_frozen BK314.out 2; have hfzx6b314_3 := blk_frozen BK314.out 3; obtain ⟨Aox6i0, cox6i0, eox6i0⟩ := Kd.R_slice HO311.out; subst eox6i0; (try have hczx6b303_0 : wx6i0.cell? ⟨gb303, 0, none⟩ = some (.int .i64 t294) := (blk_cell BK303.out 0).trans rfl); (try have hczx6b303_1 : wx6i0.cell? ⟨gb303, 1, none⟩ = some (.int .i64 t295) := (blk_cell BK303.out 1).trans rfl); (try have hczx6b303_2 : wx6i0.cell? ⟨gb303, 2, none⟩ = some (.slice Aox2i0 t296.length cox2i0) := (blk_cell BK303.out 2).trans rfl); (try have hczx6b303_3 : wx6i0.cell? ⟨gb303, 3, none⟩ = some (.int .i64 t299) := (blk_cell BK303.out 3).trans rfl); (try have hfzx6b303_0 := blk_frozen BK303.out 0); (try have hfzx6b303_1 := blk_frozen BK303.out 1); (try have hfzx6b303_2 := blk_frozen BK303.out 2); (try have hfzx6b303_3 := blk_frozen BK303.out 3)))
      go_ret
      exact ⟨by first | rfl | (simp [errW_none, errW_some] <;> rfl) | (simp [*, errW_none, errW_some] <;> rfl), by repeat (first | (with_reducible first | exact HB.out | apply below_alloc | apply pw_below_drewN | apply below_drew1 | refine below_set ?_ GE290.out | refine below_set ?_ GE303.out | refine below_set ?_ GE314.out) | exact HB.out)⟩

end Go.Proofs.Ytiebeiloooblpaa.E
end
