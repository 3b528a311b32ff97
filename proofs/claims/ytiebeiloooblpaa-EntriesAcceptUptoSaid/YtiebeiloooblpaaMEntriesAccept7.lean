/- Part 7 of the proof of EntriesAccept: the texts that it needs, put together by a program of this session. -/
import Derived.ChangeArms
import Derived.Deep.Slices
import Derived.ProofKit
import Derived.RowKit
import Derived.Test.YtiebeiloooblpaaRows
import Derived.Test.YtiebeiloooblpaaMEntriesAccept6
section
-- written by myprint.py, a program of this session over the kit's print.py
namespace Go.Proofs.Ytiebeiloooblpaa.E
open Go.RowKit Go.Proofs.YtiebeiloooblpaaW.PrintWords Go.Proofs.YtiebeiloooblpaaW.PrintLast Go.Proofs.YtiebeiloooblpaaW.PrintMore
attribute [local go_sem] max2_int min2_int max_two min_two max_three min_three max_four min_four   -- for this text's walks alone
set_option linter.unusedVariables false
set_option linter.unusedSimpArgs false

/-! ### rialtolaw08_EntriesAccept: function 6 -/
def rialtolaw08_EntriesAccept.j0 : Nat → List (S33) → Bool → Int → Int → List (S33) → Int → Int → Int → List (S33) → Int → Int → Int → List (S33) → Int → Int → Int → List (S33) → Int → Option (Bool)
  | 0, _, _, _, _, _, _, _, _, _, _, _, _, _, _, _, _, _, _ => none
  | k + 1, x6, x77, x494000, x494001, x494002, x494003, x495000, x495001, x495002, x495003, x502000, x502001, x502002, x502003, x515000, x515001, x515002, x515003 => if x77 = true then (some false) else ((rialtolaw08_spoil.f k x515002).bind fun t528 => ((rialtoref08_Same.f k x502000 x502001 x502002 x502003 x494000 x494001 x494002 x494003).bind fun t529 => (if t529 = true then ((rialtoref08_SameEntries.f k x6 x495002).bind fun t530 => (if t530 = true then ((rialtolaw08_live.f k).bind fun t531 => (some t531)) else (some false))) else (some false))))
def rialtolaw08_EntriesAccept.f (k : Nat) (a0_0 : Int) (a0_1 : Int) (l0_2 : List (S33)) (a0_3 : Int) (a1_0 : Int) (a1_1 : Int) (l1_2 : List (S33)) (a1_3 : Int) : Option (Bool) := (rialtoref08_Copy.f a0_0 a0_1 l0_2 a0_3).bind fun bt495 => (if ([] : List (S33)).length + l1_2.length < 4398046511104 then ((some (([] : List (S33)) ++ l1_2 : List (S33))).bind fun y502 => ((entries_Accept.f k bt495.1 bt495.2.1 bt495.2.2.1 bt495.2.2.2 a1_0 a1_1 y502 a1_3).bind fun bt505 => ((rialtoref08_Accept.f k a0_0 a0_1 l0_2 a0_3 a1_0 a1_1 l1_2 a1_3).bind fun bt515 => ((rialtoref08_Same.f k bt505.1 bt505.2.1 bt505.2.2.1 bt505.2.2.2.1 bt515.1 bt515.2.1 bt515.2.2.1 bt515.2.2.2.1).bind fun t525 => (if t525 = true then (if bt505.2.2.2.2.1 = bt515.2.2.2.2.1 then (if (bt505.2.2.2.2.2.1 != bt515.2.2.2.2.2.1) = true then (rialtolaw08_EntriesAccept.j0 k y502 true a0_0 a0_1 l0_2 a0_3 a1_0 a1_1 l1_2 a1_3 bt495.1 bt495.2.1 bt495.2.2.1 bt495.2.2.2 bt505.1 bt505.2.1 bt505.2.2.1 bt505.2.2.2.1) else (if bt505.2.2.2.2.2.2 = bt515.2.2.2.2.2.2 then ((rialtoref08_Same.f k bt495.1 bt495.2.1 bt495.2.2.1 bt495.2.2.2 a0_0 a0_1 l0_2 a0_3).bind fun t526 => (if t526 = true then ((rialtoref08_SameEntries.f k y502 l1_2).bind fun t527 => (rialtolaw08_EntriesAccept.j0 k y502 (!t527) a0_0 a0_1 l0_2 a0_3 a1_0 a1_1 l1_2 a1_3 bt495.1 bt495.2.1 bt495.2.2.1 bt495.2.2.2 bt505.1 bt505.2.1 bt505.2.2.1 bt505.2.2.2.1)) else (rialtolaw08_EntriesAccept.j0 k y502 true a0_0 a0_1 l0_2 a0_3 a1_0 a1_1 l1_2 a1_3 bt495.1 bt495.2.1 bt495.2.2.1 bt495.2.2.2 bt505.1 bt505.2.1 bt505.2.2.1 bt505.2.2.2.1))) else (rialtolaw08_EntriesAccept.j0 k y502 true a0_0 a0_1 l0_2 a0_3 a1_0 a1_1 l1_2 a1_3 bt495.1 bt495.2.1 bt495.2.2.1 bt495.2.2.2 bt505.1 bt505.2.1 bt505.2.2.1 bt505.2.2.2.1))) else (rialtolaw08_EntriesAccept.j0 k y502 true a0_0 a0_1 l0_2 a0_3 a1_0 a1_1 l1_2 a1_3 bt495.1 bt495.2.1 bt495.2.2.1 bt495.2.2.2 bt505.1 bt505.2.1 bt505.2.2.1 bt505.2.2.2.1)) else (rialtolaw08_EntriesAccept.j0 k y502 true a0_0 a0_1 l0_2 a0_3 a1_0 a1_1 l1_2 a1_3 bt495.1 bt495.2.1 bt495.2.2.1 bt495.2.2.2 bt505.1 bt505.2.1 bt505.2.2.1 bt505.2.2.2.1)))))) else (none))
set_option maxHeartbeats 8000000 in
set_option maxRecDepth 100000 in
theorem rialtolaw08_EntriesAccept.calls (k : Nat) (a0_0 : Int) (a0_1 : Int) (A0_2 : Option Addr) (c0_2 : Nat) (l0_2 : List (S33)) (a0_3 : Int) (a1_0 : Int) (a1_1 : Int) (A1_2 : Option Addr) (c1_2 : Nat) (l1_2 : List (S33)) (a1_3 : Int) (r : Bool) (w : World) (hr0_2 : Kd.C k33 w A0_2 l0_2.length l0_2) (hc0_2 : l0_2.length ≤ c0_2) (hr1_2 : Kd.C k33 w A1_2 l1_2.length l1_2) (hc1_2 : l1_2.length ≤ c1_2) (h : rialtolaw08_EntriesAccept.f k a0_0 a0_1 l0_2 a0_3 a1_0 a1_1 l1_2 a1_3 = some r) :
    Calls Try.prog 6 #[.agg #[.int .i64 a0_0, .int .i64 a0_1, .slice A0_2 l0_2.length c0_2, .int .i64 a0_3], .agg #[.int .i64 a1_0, .int .i64 a1_1, .slice A1_2 l1_2.length c1_2, .int .i64 a1_3]] w fun e w' => e = .returned (.bool r) ∧ Below w.heap.size w w' := by
  have hu26 := Try.underlying26
  have hu41 := Try.underlying41
  have hu23 := Try.underlying23
  have HR0_2 := Aside0.mk hr0_2
  have HC0_2 := Aside0.mk hc0_2
  clear hr0_2 hc0_2
  have HR1_2 := Aside0.mk hr1_2
  have HC1_2 := Aside0.mk hc1_2
  clear hr1_2 hc1_2
  have HB := Aside0.mk (Below.refl w.heap.size w)
  have H : ((rialtoref08_Copy.f a0_0 a0_1 l0_2 a0_3).bind fun bt495 => (if ([] : List (S33)).length + l1_2.length < 4398046511104 then ((some (([] : List (S33)) ++ l1_2 : List (S33))).bind fun y502 => ((entries_Accept.f k bt495.1 bt495.2.1 bt495.2.2.1 bt495.2.2.2 a1_0 a1_1 y502 a1_3).bind fun bt505 => ((rialtoref08_Accept.f k a0_0 a0_1 l0_2 a0_3 a1_0 a1_1 l1_2 a1_3).bind fun bt515 => ((rialtoref08_Same.f k bt505.1 bt505.2.1 bt505.2.2.1 bt505.2.2.2.1 bt515.1 bt515.2.1 bt515.2.2.1 bt515.2.2.2.1).bind fun t525 => (if t525 = true then (if bt505.2.2.2.2.1 = bt515.2.2.2.2.1 then (if (bt505.2.2.2.2.2.1 != bt515.2.2.2.2.2.1) = true then (rialtolaw08_EntriesAccept.j0 k y502 true a0_0 a0_1 l0_2 a0_3 a1_0 a1_1 l1_2 a1_3 bt495.1 bt495.2.1 bt495.2.2.1 bt495.2.2.2 bt505.1 bt505.2.1 bt505.2.2.1 bt505.2.2.2.1) else (if bt505.2.2.2.2.2.2 = bt515.2.2.2.2.2.2 then ((rialtoref08_Same.f k bt495.1 bt495.2.1 bt495.2.2.1 bt495.2.2.2 a0_0 a0_1 l0_2 a0_3).bind fun t526 => (if t526 = true then ((rialtoref08_SameEntries.f k y502 l1_2).bind fun t527 => (rialtolaw08_EntriesAccept.j0 k y502 (!t527) a0_0 a0_1 l0_2 a0_3 a1_0 a1_1 l1_2 a1_3 bt495.1 bt495.2.1 bt495.2.2.1 bt495.2.2.2 bt505.1 bt505.2.1 bt505.2.2.1 bt505.2.2.2.1)) else (rialtolaw08_EntriesAccept.j0 k y502 true a0_0 a0_1 l0_2 a0_3 a1_0 a1_1 l1_2 a1_3 bt495.1 bt495.2.1 bt495.2.2.1 bt495.2.2.2 bt505.1 bt505.2.1 bt505.2.2.1 bt505.2.2.2.1))) else (rialtolaw08_EntriesAccept.j0 k y502 true a0_0 a0_1 l0_2 a0_3 a1_0 a1_1 l1_2 a1_3 bt495.1 bt495.2.1 bt495.2.2.1 bt495.2.2.2 bt505.1 bt505.2.1 bt505.2.2.1 bt505.2.2.2.1))) else (rialtolaw08_EntriesAccept.j0 k y502 true a0_0 a0_1 l0_2 a0_3 a1_0 a1_1 l1_2 a1_3 bt495.1 bt495.2.1 bt495.2.2.1 bt495.2.2.2 bt505.1 bt505.2.1 bt505.2.2.1 bt505.2.2.2.1)) else (rialtolaw08_EntriesAccept.j0 k y502 true a0_0 a0_1 l0_2 a0_3 a1_0 a1_1 l1_2 a1_3 bt495.1 bt495.2.1 bt495.2.2.1 bt495.2.2.2 bt505.1 bt505.2.1 bt505.2.2.1 bt505.2.2.2.1)))))) else (none))) = some r := h
  clear h
  replace H := Option.bind_eq_some_iff.mp H
  obtain ⟨⟨t495, t496, t497, t500⟩, A30, H⟩ := H
  replace H : (if ([] : List (S33)).length + l1_2.length < 4398046511104 then ((some (([] : List (S33)) ++ l1_2 : List (S33))).bind fun y502 => ((entries_Accept.f k t495 t496 t497 t500 a1_0 a1_1 y502 a1_3).bind fun bt505 => ((rialtoref08_Accept.f k a0_0 a0_1 l0_2 a0_3 a1_0 a1_1 l1_2 a1_3).bind fun bt515 => ((rialtoref08_Same.f k bt505.1 bt505.2.1 bt505.2.2.1 bt505.2.2.2.1 bt515.1 bt515.2.1 bt515.2.2.1 bt515.2.2.2.1).bind fun t525 => (if t525 = true then (if bt505.2.2.2.2.1 = bt515.2.2.2.2.1 then (if (bt505.2.2.2.2.2.1 != bt515.2.2.2.2.2.1) = true then (rialtolaw08_EntriesAccept.j0 k y502 true a0_0 a0_1 l0_2 a0_3 a1_0 a1_1 l1_2 a1_3 t495 t496 t497 t500 bt505.1 bt505.2.1 bt505.2.2.1 bt505.2.2.2.1) else (if bt505.2.2.2.2.2.2 = bt515.2.2.2.2.2.2 then ((rialtoref08_Same.f k t495 t496 t497 t500 a0_0 a0_1 l0_2 a0_3).bind fun t526 => (if t526 = true then ((rialtoref08_SameEntries.f k y502 l1_2).bind fun t527 => (rialtolaw08_EntriesAccept.j0 k y502 (!t527) a0_0 a0_1 l0_2 a0_3 a1_0 a1_1 l1_2 a1_3 t495 t496 t497 t500 bt505.1 bt505.2.1 bt505.2.2.1 bt505.2.2.2.1)) else (rialtolaw08_EntriesAccept.j0 k y502 true a0_0 a0_1 l0_2 a0_3 a1_0 a1_1 l1_2 a1_3 t495 t496 t497 t500 bt505.1 bt505.2.1 bt505.2.2.1 bt505.2.2.2.1))) else (rialtolaw08_EntriesAccept.j0 k y502 true a0_0 a0_1 l0_2 a0_3 a1_0 a1_1 l1_2 a1_3 t495 t496 t497 t500 bt505.1 bt505.2.1 bt505.2.2.1 bt505.2.2.2.1))) else (rialtolaw08_EntriesAccept.j0 k y502 true a0_0 a0_1 l0_2 a0_3 a1_0 a1_1 l1_2 a1_3 t495 t496 t497 t500 bt505.1 bt505.2.1 bt505.2.2.1 bt505.2.2.2.1)) else (rialtolaw08_EntriesAccept.j0 k y502 true a0_0 a0_1 l0_2 a0_3 a1_0 a1_1 l1_2 a1_3 t495 t496 t497 t500 bt505.1 bt505.2.1 bt505.2.2.1 bt505.2.2.2.1)))))) else (none)) = some r := H
  have A3 := Aside0.mk A30
  clear A30
  by_cases c4 : ([] : List (S33)).length + l1_2.length < 4398046511104
  · rw [if_pos c4] at H
    have LMc4 := Aside0.mk c4
    clear c4
    obtain ⟨y502, hy502⟩ : ∃ y_ : List (S33), y_ = (([] : List (S33)) ++ l1_2) := ⟨_, rfl⟩
    replace H : ((entries_Accept.f k t495 t496 t497 t500 a1_0 a1_1 y502 a1_3).bind fun bt505 => ((rialtoref08_Accept.f k a0_0 a0_1 l0_2 a0_3 a1_0 a1_1 l1_2 a1_3).bind fun bt515 => ((rialtoref08_Same.f k bt505.1 bt505.2.1 bt505.2.2.1 bt505.2.2.2.1 bt515.1 bt515.2.1 bt515.2.2.1 bt515.2.2.2.1).bind fun t525 => (if t525 = true then (if bt505.2.2.2.2.1 = bt515.2.2.2.2.1 then (if (bt505.2.2.2.2.2.1 != bt515.2.2.2.2.2.1) = true then (rialtolaw08_EntriesAccept.j0 k y502 true a0_0 a0_1 l0_2 a0_3 a1_0 a1_1 l1_2 a1_3 t495 t496 t497 t500 bt505.1 bt505.2.1 bt505.2.2.1 bt505.2.2.2.1) else (if bt505.2.2.2.2.2.2 = bt515.2.2.2.2.2.2 then ((rialtoref08_Same.f k t495 t496 t497 t500 a0_0 a0_1 l0_2 a0_3).bind fun t526 => (if t526 = true then ((rialtoref08_SameEntries.f k y502 l1_2).bind fun t527 => (rialtolaw08_EntriesAccept.j0 k y502 (!t527) a0_0 a0_1 l0_2 a0_3 a1_0 a1_1 l1_2 a1_3 t495 t496 t497 t500 bt505.1 bt505.2.1 bt505.2.2.1 bt505.2.2.2.1)) else (rialtolaw08_EntriesAccept.j0 k y502 true a0_0 a0_1 l0_2 a0_3 a1_0 a1_1 l1_2 a1_3 t495 t496 t497 t500 bt505.1 bt505.2.1 bt505.2.2.1 bt505.2.2.2.1))) else (rialtolaw08_EntriesAccept.j0 k y502 true a0_0 a0_1 l0_2 a0_3 a1_0 a1_1 l1_2 a1_3 t495 t496 t497 t500 bt505.1 bt505.2.1 bt505.2.2.1 bt505.2.2.2.1))) else (rialtolaw08_EntriesAccept.j0 k y502 true a0_0 a0_1 l0_2 a0_3 a1_0 a1_1 l1_2 a1_3 t495 t496 t497 t500 bt505.1 bt505.2.1 bt505.2.2.1 bt505.2.2.2.1)) else (rialtolaw08_EntriesAccept.j0 k y502 true a0_0 a0_1 l0_2 a0_3 a1_0 a1_1 l1_2 a1_3 t495 t496 t497 t500 bt505.1 bt505.2.1 bt505.2.2.1 bt505.2.2.2.1))))) = some r := by first | (rw [hy502]; with_reducible exact H) | (have H2_ := (Option.bind_some _ _).symm.trans H; rw [hy502]; with_reducible exact H2_) | (have H2_ := (Option.bind_some _ _).symm.trans H; with_reducible exact H2_) | with_reducible exact H | (rw [hy502]; exact H) | exact H
    have Ny502 := Aside0.mk hy502
    clear hy502
    replace H := Option.bind_eq_some_iff.mp H
    obtain ⟨⟨t505, t506, t507, t510, t511, t512, t513⟩, A50, H⟩ := H
    replace H : ((rialtoref08_Accept.f k a0_0 a0_1 l0_2 a0_3 a1_0 a1_1 l1_2 a1_3).bind fun bt515 => ((rialtoref08_Same.f k t505 t506 t507 t510 bt515.1 bt515.2.1 bt515.2.2.1 bt515.2.2.2.1).bind fun t525 => (if t525 = true then (if t511 = bt515.2.2.2.2.1 then (if (t512 != bt515.2.2.2.2.2.1) = true then (rialtolaw08_EntriesAccept.j0 k y502 true a0_0 a0_1 l0_2 a0_3 a1_0 a1_1 l1_2 a1_3 t495 t496 t497 t500 t505 t506 t507 t510) else (if t513 = bt515.2.2.2.2.2.2 then ((rialtoref08_Same.f k t495 t496 t497 t500 a0_0 a0_1 l0_2 a0_3).bind fun t526 => (if t526 = true then ((rialtoref08_SameEntries.f k y502 l1_2).bind fun t527 => (rialtolaw08_EntriesAccept.j0 k y502 (!t527) a0_0 a0_1 l0_2 a0_3 a1_0 a1_1 l1_2 a1_3 t495 t496 t497 t500 t505 t506 t507 t510)) else (rialtolaw08_EntriesAccept.j0 k y502 true a0_0 a0_1 l0_2 a0_3 a1_0 a1_1 l1_2 a1_3 t495 t496 t497 t500 t505 t506 t507 t510))) else (rialtolaw08_EntriesAccept.j0 k y502 true a0_0 a0_1 l0_2 a0_3 a1_0 a1_1 l1_2 a1_3 t495 t496 t497 t500 t505 t506 t507 t510))) else (rialtolaw08_EntriesAccept.j0 k y502 true a0_0 a0_1 l0_2 a0_3 a1_0 a1_1 l1_2 a1_3 t495 t496 t497 t500 t505 t506 t507 t510)) else (rialtolaw08_EntriesAccept.j0 k y502 true a0_0 a0_1 l0_2 a0_3 a1_0 a1_1 l1_2 a1_3 t495 t496 t497 t500 t505 t506 t507 t510)))) = some r := H
    have A5 := Aside0.mk A50
    clear A50
    replace H := Option.bind_eq_some_iff.mp H
    obtain ⟨⟨t515, t516, t517, t520, t521, t522, t523⟩, A60, H⟩ := H
    replace H : ((rialtoref08_Same.f k t505 t506 t507 t510 t515 t516 t517 t520).bind fun t525 => (if t525 = true then (if t511 = t521 then (if (t512 != t522) = true then (rialtolaw08_EntriesAccept.j0 k y502 true a0_0 a0_1 l0_2 a0_3 a1_0 a1_1 l1_2 a1_3 t495 t496 t497 t500 t505 t506 t507 t510) else (if t513 = t523 then ((rialtoref08_Same.f k t495 t496 t497 t500 a0_0 a0_1 l0_2 a0_3).bind fun t526 => (if t526 = true then ((rialtoref08_SameEntries.f k y502 l1_2).bind fun t527 => (rialtolaw08_EntriesAccept.j0 k y502 (!t527) a0_0 a0_1 l0_2 a0_3 a1_0 a1_1 l1_2 a1_3 t495 t496 t497 t500 t505 t506 t507 t510)) else (rialtolaw08_EntriesAccept.j0 k y502 true a0_0 a0_1 l0_2 a0_3 a1_0 a1_1 l1_2 a1_3 t495 t496 t497 t500 t505 t506 t507 t510))) else (rialtolaw08_EntriesAccept.j0 k y502 true a0_0 a0_1 l0_2 a0_3 a1_0 a1_1 l1_2 a1_3 t495 t496 t497 t500 t505 t506 t507 t510))) else (rialtolaw08_EntriesAccept.j0 k y502 true a0_0 a0_1 l0_2 a0_3 a1_0 a1_1 l1_2 a1_3 t495 t496 t497 t500 t505 t506 t507 t510)) else (rialtolaw08_EntriesAccept.j0 k y502 true a0_0 a0_1 l0_2 a0_3 a1_0 a1_1 l1_2 a1_3 t495 t496 t497 t500 t505 t506 t507 t510))) = some r := H
    have A6 := Aside0.mk A60
    clear A60
    have HC7 := Aside0.mk H
    clear H
    go_enter Try.func6, Try.ntmps6
    go_upto_region 6 with (first | ((with_reducible refine gate_dst (N := 2) rfl ?_); refine box_event ?hg (N := 2) ?hd (cs := #[.int .i64 a0_0, .int .i64 a0_1, .slice A0_2 l0_2.length c0_2, .int .i64 a0_3]) (t := 26) ?hr ?_; (case hd => rfl); (case hg => rfl); (case hr => first | (go_simp; done) | (go_simp; rfl)); intro gb493 hg w8 hbox hb; have n0_ := Aside0.mk (below_step (by repeat (first | (with_reducible first | exact HB.out | apply below_alloc | apply pw_below_drewN | apply below_drew1) | exact HB.out)) hb); have n1_ := Aside0.mk (hbox); have n2_ := Aside0.mk ((by rw [hg]; exact (below_size (by repeat (first | (with_reducible first | exact HB.out | apply below_alloc | apply pw_below_drewN | apply below_drew1) | exact HB.out))) : w.heap.size ≤ gb493)); have n3_ := Aside0.mk ((by rw [hg]; exact (below_size (by repeat (first | (with_reducible first | exact HB.out | apply below_alloc | apply pw_below_drewN | apply below_drew1) | exact HB.out))) : w.heap.size ≤ gb493)); clear HB; have HB := n0_; have BK493 := n1_; have GW493 := n2_; have GE493 := n3_; clear n0_ n1_ n2_ n3_; clear hb hbox hg) | ((with_reducible refine gate_dst (N := 3) rfl ?_); refine box_event ?hg (N := 3) ?hd (cs := #[.int .i64 a1_0, .int .i64 a1_1, .slice A1_2 l1_2.length c1_2, .int .i64 a1_3]) (t := 41) ?hr ?_; (case hd => rfl); (case hg => rfl); (case hr => first | (go_simp; done) | (go_simp; rfl)); intro gb494 hg w9 hbox hb; have n0_ := Aside0.mk (blk_below (g := gb493) (o := .cells #[.int .i64 a0_0, .int .i64 a0_1, .slice A0_2 l0_2.length c0_2, .int .i64 a0_3] 26 (0, 0)) (by (with_reducible repeat (first | refine blk_drewN ?_ _ | refine blk_drew ?_ | refine blk_alloc ?_ _)); exact BK493.out) hb); have n1_ := Aside0.mk (below_step (by repeat (first | (with_reducible first | exact HB.out | apply below_alloc | apply pw_below_drewN | apply below_drew1 | refine below_set ?_ GE493.out) | exact HB.out)) hb); have n2_ := Aside0.mk (hbox); have n3_ := Aside0.mk ((by rw [hg]; exact (below_size (by repeat (first | (with_reducible first | exact HB.out | apply below_alloc | apply pw_below_drewN | apply below_drew1 | refine below_set ?_ GE493.out) | exact HB.out))) : w.heap.size ≤ gb494)); have n4_ := Aside0.mk ((by rw [hg]; exact (below_size (by repeat (first | (with_reducible first | exact HB.out | apply below_alloc | apply pw_below_drewN | apply below_drew1 | refine below_set ?_ GE493.out) | exact HB.out))) : w.heap.size ≤ gb494)); have n5_ := Aside0.mk ((by rw [hg]; exact Nat.ne_of_lt (blk_lt (g := gb493) (o := .cells #[.int .i64 a0_0, .int .i64 a0_1, .slice A0_2 l0_2.length c0_2, .int .i64 a0_3] 26 (0, 0)) (by (with_reducible repeat (first | refine blk_drewN ?_ _ | refine blk_drew ?_ | refine blk_alloc ?_ _)); exact BK493.out)) : gb493 ≠ gb494)); have n6_ := Aside0.mk ((by rw [hg]; exact Nat.ne_of_gt (blk_lt (g := gb493) (o := .cells #[.int .i64 a0_0, .int .i64 a0_1, .slice A0_2 l0_2.length c0_2, .int .i64 a0_3] 26 (0, 0)) (by (with_reducible repeat (first | refine blk_drewN ?_ _ | refine blk_drew ?_ | refine blk_alloc ?_ _)); exact BK493.out)) : gb494 ≠ gb493)); clear BK493; clear HB; have BK493 := n0_; have HB := n1_; have BK494 := n2_; have GW494 := n3_; have GE494 := n4_; have NB493_494 := n5_; have NB494_493 := n6_; clear n0_ n1_ n2_ n3_ n4_ n5_ n6_; clear hb hbox hg; have hnb10 := NB493_494.out; have hnc10 := NB494_493.out; have hcz11_0 : w9.cell? ⟨gb493, 0, none⟩ = some (.int .i64 a0_0) := (blk_cell BK493.out 0).trans rfl; have hcz11_1 : w9.cell? ⟨gb493, 1, none⟩ = some (.int .i64 a0_1) := (blk_cell BK493.out 1).trans rfl; have hcz11_2 : w9.cell? ⟨gb493, 2, none⟩ = some (.slice A0_2 l0_2.length c0_2) := (blk_cell BK493.out 2).trans rfl; have hcz11_3 : w9.cell? ⟨gb493, 3, none⟩ = some (.int .i64 a0_3) := (blk_cell BK493.out 3).trans rfl; have hfz11_0 := blk_frozen BK493.out 0; have hfz11_1 := blk_frozen BK493.out 1; have hfz11_2 := blk_frozen BK493.out 2; have hfz11_3 := blk_frozen BK493.out 3) | ((with_reducible refine gate_callee (f := 13) rfl ?_); refine goesL_ (some 16) rfl rfl Try.func13 (by kernel_rfl) rfl #[.agg #[.int .i64 a0_0, .int .i64 a0_1, .slice A0_2 l0_2.length c0_2, .int .i64 a0_3]] rfl (by (try simp only [List.map_toArray, List.map_cons, List.map_nil]); first | done | rfl | (simp only [List.length_drop, List.length_take]; rfl)) ?_; (with_reducible refine (rialtoref08_Copy.calls a0_0 a0_1 _ _ l0_2 a0_3 t495 t496 t497 t500 _ ?side1 ?side2 A3.out).mono ?_); (case side1 => repeat (first | exact (Kd.C_below HR0_2.out HB.out) | (with_reducible refine Kd.C_alloc ?_ _) | (with_reducible refine Kd.C_drewN ?_ _) | (with_reducible refine Kd.C_drew ?_))); (case side2 => exact HC0_2.out); rintro e w12 ⟨v498, rfl, ho0, hb⟩; refine ⟨_, rfl, ?_⟩; have n0_ := Aside0.mk (Kd.R_lower ho0 (below_size (by repeat (first | (with_reducible first | exact HB.out | apply below_alloc | apply pw_below_drewN | apply below_drew1 | refine below_set ?_ GE493.out | refine below_set ?_ GE494.out) | exact HB.out)))); have n1_ := Aside0.mk (blk_below (g := gb493) (o := .cells #[.int .i64 a0_0, .int .i64 a0_1, .slice A0_2 l0_2.length c0_2, .int .i64 a0_3] 26 (0, 0)) (by (with_reducible repeat (first | refine blk_drewN ?_ _ | refine blk_drew ?_ | refine blk_alloc ?_ _)); exact BK493.out) hb); have n2_ := Aside0.mk (blk_below (g := gb494) (o := .cells #[.int .i64 a1_0, .int .i64 a1_1, .slice A1_2 l1_2.length c1_2, .int .i64 a1_3] 41 (0, 0)) (by (with_reducible repeat (first | refine blk_drewN ?_ _ | refine blk_drew ?_ | refine blk_alloc ?_ _)); exact BK494.out) hb); have n3_ := Aside0.mk (below_step (by repeat (first | (with_reducible first | exact HB.out | apply below_alloc | apply pw_below_drewN | apply below_drew1 | refine below_set ?_ GE493.out | refine below_set ?_ GE494.out) | exact HB.out)) hb); clear BK493; clear BK494; clear HB; have HO499 := n0_; have BK493 := n1_; have BK494 := n2_; have HB := n3_; clear n0_ n1_ n2_ n3_; (try clear hb); (try clear hb2); (try clear hk); (try clear hi); (try clear ho0)) | ((with_reducible refine gate_dst (N := 5) rfl ?_); refine box_event ?hg (N := 5) ?hd (cs := #[.int .i64 0, .int .i64 0, .slice none 0 0, .int .i64 0]) (t := 26) ?hr ?_; (case hd => rfl); (case hg => rfl); (case hr => first | (go_simp; done) | (go_simp; rfl)); intro gb501 hg w13 hbox hb; have n0_ := Aside0.mk (Kd.R_below (by (with_reducible repeat (first | apply Kd.R_alloc | apply Kd.R_drewN | apply Kd.R_drew)); exact HO499.out) hb); have n1_ := Aside0.mk (blk_below (g := gb493) (o := .cells #[.int .i64 a0_0, .int .i64 a0_1, .slice A0_2 l0_2.length c0_2, .int .i64 a0_3] 26 (0, 0)) (by (with_reducible repeat (first | refine blk_drewN ?_ _ | refine blk_drew ?_ | refine blk_alloc ?_ _)); exact BK493.out) hb); have n2_ := Aside0.mk (blk_below (g := gb494) (o := .cells #[.int .i64 a1_0, .int .i64 a1_1, .slice A1_2 l1_2.length c1_2, .int .i64 a1_3] 41 (0, 0)) (by (with_reducible repeat (first | refine blk_drewN ?_ _ | refine blk_drew ?_ | refine blk_alloc ?_ _)); exact BK494.out) hb); have n3_ := Aside0.mk (below_step (by repeat (first | (with_reducible first | exact HB.out | apply below_alloc | apply pw_below_drewN | apply below_drew1 | refine below_set ?_ GE493.out | refine below_set ?_ GE494.out) | exact HB.out)) hb); have n4_ := Aside0.mk (hbox); have n5_ := Aside0.mk ((by rw [hg]; exact (below_size (by repeat (first | (with_reducible first | exact HB.out | apply below_alloc | apply pw_below_drewN | apply below_drew1 | refine below_set ?_ GE493.out | refine below_set ?_ GE494.out) | exact HB.out))) : w.heap.size ≤ gb501)); have n6_ := Aside0.mk ((by rw [hg]; exact (below_size (by repeat (first | (with_reducible first | exact HB.out | apply below_alloc | apply pw_below_drewN | apply below_drew1 | refine below_set ?_ GE493.out | refine below_set ?_ GE494.out) | exact HB.out))) : w.heap.size ≤ gb501)); have n7_ := Aside0.mk ((by rw [hg]; exact Nat.ne_of_lt (blk_lt (g := gb493) (o := .cells #[.int .i64 a0_0, .int .i64 a0_1, .slice A0_2 l0_2.length c0_2, .int .i64 a0_3] 26 (0, 0)) (by (with_reducible repeat (first | refine blk_drewN ?_ _ | refine blk_drew ?_ | refine blk_alloc ?_ _)); exact BK493.out)) : gb493 ≠ gb501)); have n8_ := Aside0.mk ((by rw [hg]; exact Nat.ne_of_gt (blk_lt (g := gb493) (o := .cells #[.int .i64 a0_0, .int .i64 a0_1, .slice A0_2 l0_2.length c0_2, .int .i64 a0_3] 26 (0, 0)) (by (with_reducible repeat (first | refine blk_drewN ?_ _ | refine blk_drew ?_ | refine blk_alloc ?_ _)); exact BK493.out)) : gb501 ≠ gb493)); have n9_ := Aside0.mk ((by rw [hg]; exact Nat.ne_of_lt (blk_lt (g := gb494) (o := .cells #[.int .i64 a1_0, .int .i64 a1_1, .slice A1_2 l1_2.length c1_2, .int .i64 a1_3] 41 (0, 0)) (by (with_reducible repeat (first | refine blk_drewN ?_ _ | refine blk_drew ?_ | refine blk_alloc ?_ _)); exact BK494.out)) : gb494 ≠ gb501)); have n10_ := Aside0.mk ((by rw [hg]; exact Nat.ne_of_gt (blk_lt (g := gb494) (o := .cells #[.int .i64 a1_0, .int .i64 a1_1, .slice A1_2 l1_2.length c1_2, .int .i64 a1_3] 41 (0, 0)) (by (with_reducible repeat (first | refine blk_drewN ?_ _ | refine blk_drew ?_ | refine blk_alloc ?_ _)); exact BK494.out)) : gb501 ≠ gb494)); clear HO499; clear BK493; clear BK494; clear HB; have HO499 := n0_; have BK493 := n1_; have BK494 := n2_; have HB := n3_; have BK501 := n4_; have GW501 := n5_; have GE501 := n6_; have NB493_501 := n7_; have NB501_493 := n8_; have NB494_501 := n9_; have NB501_494 := n10_; clear n0_ n1_ n2_ n3_ n4_ n5_ n6_ n7_ n8_ n9_ n10_; clear hb hbox hg; have hnb14 := NB501_493.out; have hnc14 := NB493_501.out; have hnb15 := NB501_494.out; have hnc15 := NB494_501.out; have hcz16_0 : w13.cell? ⟨gb501, 0, none⟩ = some (.int .i64 0) := (blk_cell BK501.out 0).trans rfl; have hcz16_1 : w13.cell? ⟨gb501, 1, none⟩ = some (.int .i64 0) := (blk_cell BK501.out 1).trans rfl; have hcz16_2 : w13.cell? ⟨gb501, 2, none⟩ = some (.slice none 0 0) := (blk_cell BK501.out 2).trans rfl; have hcz16_3 : w13.cell? ⟨gb501, 3, none⟩ = some (.int .i64 0) := (blk_cell BK501.out 3).trans rfl; have hfz16_0 := blk_frozen BK501.out 0; have hfz16_1 := blk_frozen BK501.out 1; have hfz16_2 := blk_frozen BK501.out 2; have hfz16_3 := blk_frozen BK501.out 3; obtain ⟨Ao17, co17, eo17⟩ := Kd.R_slice HO499.out; subst eo17; have hcz18_0 : w13.cell? ⟨gb494, 0, none⟩ = some (.int .i64 a1_0) := (blk_cell BK494.out 0).trans rfl; have hcz18_1 : w13.cell? ⟨gb494, 1, none⟩ = some (.int .i64 a1_1) := (blk_cell BK494.out 1).trans rfl; have hcz18_2 : w13.cell? ⟨gb494, 2, none⟩ = some (.slice A1_2 l1_2.length c1_2) := (blk_cell BK494.out 2).trans rfl; have hcz18_3 : w13.cell? ⟨gb494, 3, none⟩ = some (.int .i64 a1_3) := (blk_cell BK494.out 3).trans rfl; have hfz18_0 := blk_frozen BK494.out 0; have hfz18_1 := blk_frozen BK494.out 1; have hfz18_2 := blk_frozen BK494.out 2; have hfz18_3 := blk_frozen BK494.out 3) | ((with_reducible refine gate_builtin (b := .append) (xs := #[.tmp 17, .tmp 19]) rfl ?_); at_builtin; refine Kd.R_append_rows k33 (w0 := w) w.heap.size rfl (.tmp 17) (.tmp 19) 24 33 (.agg #[(.int .i64 0), (.int .i64 0), (.string ⟨#[]⟩)]) 32 rfl Try.underlying24 info33 rfl (by decide) (by omega) (.slice none 0 0) ([] : List (S33)) l1_2 _ _ _ (fun k_ => some k_ ≠ (.slice Ao17 t497.length co17 : Value).ownBlock) (fun _ => False) rfl rfl ?aO ?aR (fun _ _ h => h) (fun _ h => h.elim) ?aF ?aB ?aS ?aL ?_; (case aR => exact Kd.C_below HR1_2.out (by repeat (first | (with_reducible first | exact HB.out | apply below_alloc | apply pw_below_drewN | apply below_drew1 | refine below_set ?_ GE493.out | refine below_set ?_ GE494.out | refine below_set ?_ GE501.out) | exact HB.out))); (case aB => exact (by repeat (first | (with_reducible first | exact HB.out | apply below_alloc | apply pw_below_drewN | apply below_drew1 | refine below_set ?_ GE493.out | refine below_set ?_ GE494.out | refine below_set ?_ GE501.out) | exact HB.out))); (case aF => exact (fun k_ hk => Kd.fresh' (Kd.R_lt (by (with_reducible repeat (first | apply Kd.R_alloc | apply Kd.R_drewN | apply Kd.R_drew)); exact (Kd.R_mono (Kd.R_far (p := ⟨gb501, 3, none⟩) (Kd.R_far (p := ⟨gb501, 2, none⟩) (Kd.R_far (p := ⟨gb501, 1, none⟩) (Kd.R_far (p := ⟨gb501, 0, none⟩) (Kd.R_types HO499.out BK501.out (by decide)) (fun _ hk => hk.2) (.int .i64 t495)) (fun _ hk => hk.2) (.int .i64 t496)) (fun _ hk => hk.2) (.slice Ao17 t497.length co17)) (fun _ hk => hk.2) (.int .i64 t500)) (fun _ h_ => h_.1)))) k_ hk)); (case aO => exact ((Kd.R_nil _ _ _ _ (fun k_ => some k_ ≠ (.slice Ao17 t497.length co17 : Value).ownBlock)))); (case aS => exact (below_size (by repeat (first | (with_reducible first | exact HB.out | apply below_alloc | apply pw_below_drewN | apply below_drew1 | refine below_set ?_ GE493.out | refine below_set ?_ GE494.out | refine below_set ?_ GE501.out) | exact HB.out)))); (case aL => have := LMc4.out; omega); intro v503 w19 ho hb hg hat; rw [← Ny502.out] at ho; have n0_ := Aside0.mk (blk_grown (g := gb493) (o := .cells #[.int .i64 a0_0, .int .i64 a0_1, .slice A0_2 l0_2.length c0_2, .int .i64 a0_3] 26 (0, 0)) (by (with_reducible repeat (first | refine blk_drewN ?_ _ | refine blk_drew ?_ | refine blk_alloc ?_ _)); refine blk_far ?_ NB493_501.out _; (with_reducible repeat (first | refine blk_drewN ?_ _ | refine blk_drew ?_ | refine blk_alloc ?_ _)); refine blk_far ?_ NB493_501.out _; (with_reducible repeat (first | refine blk_drewN ?_ _ | refine blk_drew ?_ | refine blk_alloc ?_ _)); refine blk_far ?_ NB493_501.out _; (with_reducible repeat (first | refine blk_drewN ?_ _ | refine blk_drew ?_ | refine blk_alloc ?_ _)); refine blk_far ?_ NB493_501.out _; (with_reducible repeat (first | refine blk_drewN ?_ _ | refine blk_drew ?_ | refine blk_alloc ?_ _)); exact BK493.out) hg (by simp [Value.ownBlock])); have n1_ := Aside0.mk (blk_grown (g := gb494) (o := .cells #[.int .i64 a1_0, .int .i64 a1_1, .slice A1_2 l1_2.length c1_2, .int .i64 a1_3] 41 (0, 0)) (by (with_reducible repeat (first | refine blk_drewN ?_ _ | refine blk_drew ?_ | refine blk_alloc ?_ _)); refine blk_far ?_ NB494_501.out _; (with_reducible repeat (first | refine blk_drewN ?_ _ | refine blk_drew ?_ | refine blk_alloc ?_ _)); refine blk_far ?_ NB494_501.out _; (with_reducible repeat (first | refine blk_drewN ?_ _ | refine blk_drew ?_ | refine blk_alloc ?_ _)); refine blk_far ?_ NB494_501.out _; (with_reducible repeat (first | refine blk_drewN ?_ _ | refine blk_drew ?_ | refine blk_alloc ?_ _)); refine blk_far ?_ NB494_501.out _; (with_reducible repeat (first | refine blk_drewN ?_ _ | refine blk_drew ?_ | refine blk_alloc ?_ _)); exact BK494.out) hg (by simp [Value.ownBlock])); have n2_ := Aside0.mk (Kd.R_after (Kd.R_apart_nil (by (with_reducible repeat (first | apply Kd.R_alloc | apply Kd.R_drewN | apply Kd.R_drew)); exact (Kd.R_mono (Kd.R_far (p := ⟨gb501, 3, none⟩) (Kd.R_far (p := ⟨gb501, 2, none⟩) (Kd.R_far (p := ⟨gb501, 1, none⟩) (Kd.R_far (p := ⟨gb501, 0, none⟩) (Kd.R_types HO499.out BK501.out (by decide)) (fun _ hk => hk.2) (.int .i64 t495)) (fun _ hk => hk.2) (.int .i64 t496)) (fun _ hk => hk.2) (.slice Ao17 t497.length co17)) (fun _ hk => hk.2) (.int .i64 t500)) (fun _ h_ => h_.1)))) hg hat); have n3_ := Aside0.mk (blk_grown (g := gb501) (o := .cells #[.int .i64 t495, .int .i64 t496, .slice Ao17 t497.length co17, .int .i64 t500] 26 (0, 0)) (by (with_reducible repeat (first | refine blk_drewN ?_ _ | refine blk_drew ?_ | refine blk_alloc ?_ _)); refine blk_put (cs := #[.int .i64 t495, .int .i64 t496, .slice Ao17 t497.length co17, .int .i64 0]) ?_ 3 _ rfl; (with_reducible repeat (first | refine blk_drewN ?_ _ | refine blk_drew ?_ | refine blk_alloc ?_ _)); refine blk_put (cs := #[.int .i64 t495, .int .i64 t496, .slice none 0 0, .int .i64 0]) ?_ 2 _ rfl; (with_reducible repeat (first | refine blk_drewN ?_ _ | refine blk_drew ?_ | refine blk_alloc ?_ _)); refine blk_put (cs := #[.int .i64 t495, .int .i64 0, .slice none 0 0, .int .i64 0]) ?_ 1 _ rfl; (with_reducible repeat (first | refine blk_drewN ?_ _ | refine blk_drew ?_ | refine blk_alloc ?_ _)); refine blk_put (cs := #[.int .i64 0, .int .i64 0, .slice none 0 0, .int .i64 0]) ?_ 0 _ rfl; (with_reducible repeat (first | refine blk_drewN ?_ _ | refine blk_drew ?_ | refine blk_alloc ?_ _)); exact BK501.out) hg (by simp [Value.ownBlock])); have n4_ := Aside0.mk (hb); have n5_ := Aside0.mk (ho); clear BK493; clear BK494; clear HO499; clear BK501; clear HB; have BK493 := n0_; have BK494 := n1_; have HO499 := n2_; have BK501 := n3_; have HB := n4_; have HO504 := n5_; clear n0_ n1_ n2_ n3_ n4_ n5_; clear ho hb hg hat; have hcz20_0 : w19.cell? ⟨gb501, 0, none⟩ = some (.int .i64 t495) := (blk_cell BK501.out 0).trans rfl; have hcz20_1 : w19.cell? ⟨gb501, 1, none⟩ = some (.int .i64 t496) := (blk_cell BK501.out 1).trans rfl; have hcz20_2 : w19.cell? ⟨gb501, 2, none⟩ = some (.slice Ao17 t497.length co17) := (blk_cell BK501.out 2).trans rfl; have hcz20_3 : w19.cell? ⟨gb501, 3, none⟩ = some (.int .i64 t500) := (blk_cell BK501.out 3).trans rfl; have hfz20_0 := blk_frozen BK501.out 0; have hfz20_1 := blk_frozen BK501.out 1; have hfz20_2 := blk_frozen BK501.out 2; have hfz20_3 := blk_frozen BK501.out 3; have hcz21_0 : w19.cell? ⟨gb494, 0, none⟩ = some (.int .i64 a1_0) := (blk_cell BK494.out 0).trans rfl; have hcz21_1 : w19.cell? ⟨gb494, 1, none⟩ = some (.int .i64 a1_1) := (blk_cell BK494.out 1).trans rfl; have hcz21_2 : w19.cell? ⟨gb494, 2, none⟩ = some (.slice A1_2 l1_2.length c1_2) := (blk_cell BK494.out 2).trans rfl; have hcz21_3 : w19.cell? ⟨gb494, 3, none⟩ = some (.int .i64 a1_3) := (blk_cell BK494.out 3).trans rfl; have hfz21_0 := blk_frozen BK494.out 0; have hfz21_1 := blk_frozen BK494.out 1; have hfz21_2 := blk_frozen BK494.out 2; have hfz21_3 := blk_frozen BK494.out 3; obtain ⟨Ao22, co22, eo22⟩ := Kd.R_slice HO504.out; subst eo22) | ((with_reducible refine gate_callee (f := 20) rfl ?_); refine goesL_ (some 28) rfl rfl Try.func20 (by kernel_rfl) rfl #[.agg #[.int .i64 t495, .int .i64 t496, .slice Ao17 t497.length co17, .int .i64 t500], .agg #[.int .i64 a1_0, .int .i64 a1_1], .slice Ao22 y502.length co22, .int .i64 a1_3] rfl (by (try simp only [List.map_toArray, List.map_cons, List.map_nil]); first | done | rfl | (simp only [List.length_drop, List.length_take]; rfl)) ?_; (with_reducible refine (entries_Accept.calls k t495 t496 _ _ t497 t500 a1_0 a1_1 _ _ y502 a1_3 t505 t506 t507 t510 t511 t512 t513 _ ?side1 ?side2 ?side3 ?side4 A5.out).mono ?_); (case side1 => repeat (first | exact (Kd.R_reads' HO499.out).2.2 | (with_reducible refine Kd.C_alloc ?_ _) | (with_reducible refine Kd.C_drewN ?_ _) | (with_reducible refine Kd.C_drew ?_))); (case side2 => exact (Kd.R_reads' HO499.out).2.1); (case side3 => repeat (first | exact (Kd.R_reads' HO504.out).2.2 | (with_reducible refine Kd.C_alloc ?_ _) | (with_reducible refine Kd.C_drewN ?_ _) | (with_reducible refine Kd.C_drew ?_))); (case side4 => exact (Kd.R_reads' HO504.out).2.1); rintro e w23 ⟨v508, rfl, ho0, hb⟩; refine ⟨_, rfl, ?_⟩; have n0_ := Aside0.mk (Kd.R_elder' (by (with_reducible repeat (first | apply Kd.R_alloc | apply Kd.R_drewN | apply Kd.R_drew)); exact HO499.out) (Kd.R_base ho0) hb); have n1_ := Aside0.mk (Kd.R_elder' (by (with_reducible repeat (first | apply Kd.R_alloc | apply Kd.R_drewN | apply Kd.R_drew)); exact HO504.out) (Kd.R_base ho0) hb); have n2_ := Aside0.mk (Kd.R_lower (Kd.R_new' (Kd.R_new' ho0 (Kd.R_lt (by (with_reducible repeat (first | apply Kd.R_alloc | apply Kd.R_drewN | apply Kd.R_drew)); exact HO499.out))) (Kd.R_lt (by (with_reducible repeat (first | apply Kd.R_alloc | apply Kd.R_drewN | apply Kd.R_drew)); exact HO504.out))) (below_size (by repeat (first | (with_reducible first | exact HB.out | apply below_alloc | apply pw_below_drewN | apply below_drew1 | refine below_set ?_ GE493.out | refine below_set ?_ GE494.out | refine below_set ?_ GE501.out) | exact HB.out)))); have n3_ := Aside0.mk (blk_below (g := gb493) (o := .cells #[.int .i64 a0_0, .int .i64 a0_1, .slice A0_2 l0_2.length c0_2, .int .i64 a0_3] 26 (0, 0)) (by (with_reducible repeat (first | refine blk_drewN ?_ _ | refine blk_drew ?_ | refine blk_alloc ?_ _)); exact BK493.out) hb); have n4_ := Aside0.mk (blk_below (g := gb494) (o := .cells #[.int .i64 a1_0, .int .i64 a1_1, .slice A1_2 l1_2.length c1_2, .int .i64 a1_3] 41 (0, 0)) (by (with_reducible repeat (first | refine blk_drewN ?_ _ | refine blk_drew ?_ | refine blk_alloc ?_ _)); exact BK494.out) hb); have n5_ := Aside0.mk (blk_below (g := gb501) (o := .cells #[.int .i64 t495, .int .i64 t496, .slice Ao17 t497.length co17, .int .i64 t500] 26 (0, 0)) (by (with_reducible repeat (first | refine blk_drewN ?_ _ | refine blk_drew ?_ | refine blk_alloc ?_ _)); exact BK501.out) hb); have n6_ := Aside0.mk (below_step (by repeat (first | (with_reducible first | exact HB.out | apply below_alloc | apply pw_below_drewN | apply below_drew1 | refine below_set ?_ GE493.out | refine below_set ?_ GE494.out | refine below_set ?_ GE501.out) | exact HB.out)) hb); clear HO499; clear HO504; clear BK493; clear BK494; clear BK501; clear HB; have HO499 := n0_; have HO504 := n1_; have HO509 := n2_; have BK493 := n3_; have BK494 := n4_; have BK501 := n5_; have HB := n6_; clear n0_ n1_ n2_ n3_ n4_ n5_ n6_; (try clear hb); (try clear hb2); (try clear hk); (try clear hi); (try clear ho0)) | ((with_reducible refine gate_dst (N := 7) rfl ?_); refine box_event ?hg (N := 7) ?hd (cs := #[.int .i64 0, .int .i64 0, .slice none 0 0, .int .i64 0]) (t := 26) ?hr ?_; (case hd => rfl); (case hg => rfl); (case hr => first | (go_simp; done) | (go_simp; rfl)); intro gb514 hg w24 hbox hb; have n0_ := Aside0.mk (Kd.R_below (by (with_reducible repeat (first | apply Kd.R_alloc | apply Kd.R_drewN | apply Kd.R_drew)); exact HO499.out) hb); have n1_ := Aside0.mk (Kd.R_below (by (with_reducible repeat (first | apply Kd.R_alloc | apply Kd.R_drewN | apply Kd.R_drew)); exact HO504.out) hb); have n2_ := Aside0.mk (Kd.R_below (by (with_reducible repeat (first | apply Kd.R_alloc | apply Kd.R_drewN | apply Kd.R_drew)); exact HO509.out) hb); have n3_ := Aside0.mk (blk_below (g := gb493) (o := .cells #[.int .i64 a0_0, .int .i64 a0_1, .slice A0_2 l0_2.length c0_2, .int .i64 a0_3] 26 (0, 0)) (by (with_reducible repeat (first | refine blk_drewN ?_ _ | refine blk_drew ?_ | refine blk_alloc ?_ _)); exact BK493.out) hb); have n4_ := Aside0.mk (blk_below (g := gb494) (o := .cells #[.int .i64 a1_0, .int .i64 a1_1, .slice A1_2 l1_2.length c1_2, .int .i64 a1_3] 41 (0, 0)) (by (with_reducible repeat (first | refine blk_drewN ?_ _ | refine blk_drew ?_ | refine blk_alloc ?_ _)); exact BK494.out) hb); have n5_ := Aside0.mk (blk_below (g := gb501) (o := .cells #[.int .i64 t495, .int .i64 t496, .slice Ao17 t497.length co17, .int .i64 t500] 26 (0, 0)) (by (with_reducible repeat (first | refine blk_drewN ?_ _ | refine blk_drew ?_ | refine blk_alloc ?_ _)); exact BK501.out) hb); have n6_ := Aside0.mk (below_step (by repeat (first | (with_reducible first | exact HB.out | apply below_alloc | apply pw_below_drewN | apply below_drew1 | refine below_set ?_ GE493.out | refine below_set ?_ GE494.out | refine below_set ?_ GE501.out) | exact HB.out)) hb); have n7_ := Aside0.mk (hbox); have n8_ := Aside0.mk ((by rw [hg]; exact (below_size (by repeat (first | (with_reducible first | exact HB.out | apply below_alloc | apply pw_below_drewN | apply below_drew1 | refine below_set ?_ GE493.out | refine below_set ?_ GE494.out | refine below_set ?_ GE501.out) | exact HB.out))) : w.heap.size ≤ gb514)); have n9_ := Aside0.mk ((by rw [hg]; exact (below_size (by repeat (first | (with_reducible first | exact HB.out | apply below_alloc | apply pw_below_drewN | apply below_drew1 | refine below_set ?_ GE493.out | refine below_set ?_ GE494.out | refine below_set ?_ GE501.out) | exact HB.out))) : w.heap.size ≤ gb514)); have n10_ := Aside0.mk ((by rw [hg]; exact Nat.ne_of_lt (blk_lt (g := gb493) (o := .cells #[.int .i64 a0_0, .int .i64 a0_1, .slice A0_2 l0_2.length c0_2, .int .i64 a0_3] 26 (0, 0)) (by (with_reducible repeat (first | refine blk_drewN ?_ _ | refine blk_drew ?_ | refine blk_alloc ?_ _)); exact BK493.out)) : gb493 ≠ gb514)); have n11_ := Aside0.mk ((by rw [hg]; exact Nat.ne_of_gt (blk_lt (g := gb493) (o := .cells #[.int .i64 a0_0, .int .i64 a0_1, .slice A0_2 l0_2.length c0_2, .int .i64 a0_3] 26 (0, 0)) (by (with_reducible repeat (first | refine blk_drewN ?_ _ | refine blk_drew ?_ | refine blk_alloc ?_ _)); exact BK493.out)) : gb514 ≠ gb493)); have n12_ := Aside0.mk ((by rw [hg]; exact Nat.ne_of_lt (blk_lt (g := gb494) (o := .cells #[.int .i64 a1_0, .int .i64 a1_1, .slice A1_2 l1_2.length c1_2, .int .i64 a1_3] 41 (0, 0)) (by (with_reducible repeat (first | refine blk_drewN ?_ _ | refine blk_drew ?_ | refine blk_alloc ?_ _)); exact BK494.out)) : gb494 ≠ gb514)); have n13_ := Aside0.mk ((by rw [hg]; exact Nat.ne_of_gt (blk_lt (g := gb494) (o := .cells #[.int .i64 a1_0, .int .i64 a1_1, .slice A1_2 l1_2.length c1_2, .int .i64 a1_3] 41 (0, 0)) (by (with_reducible repeat (first | refine blk_drewN ?_ _ | refine blk_drew ?_ | refine blk_alloc ?_ _)); exact BK494.out)) : gb514 ≠ gb494)); have n14_ := Aside0.mk ((by rw [hg]; exact Nat.ne_of_lt (blk_lt (g := gb501) (o := .cells #[.int .i64 t495, .int .i64 t496, .slice Ao17 t497.length co17, .int .i64 t500] 26 (0, 0)) (by (with_reducible repeat (first | refine blk_drewN ?_ _ | refine blk_drew ?_ | refine blk_alloc ?_ _)); exact BK501.out)) : gb501 ≠ gb514)); have n15_ := Aside0.mk ((by rw [hg]; exact Nat.ne_of_gt (blk_lt (g := gb501) (o := .cells #[.int .i64 t495, .int .i64 t496, .slice Ao17 t497.length co17, .int .i64 t500] 26 (0, 0)) (by (with_reducible repeat (first | refine blk_drewN ?_ _ | refine blk_drew ?_ | refine blk_alloc ?_ _)); exact BK501.out)) : gb514 ≠ gb501)); clear HO499; clear HO504; clear HO509; clear BK493; clear BK494; clear BK501; clear HB; have HO499 := n0_; have HO504 := n1_; have HO509 := n2_; have BK493 := n3_; have BK494 := n4_; have BK501 := n5_; have HB := n6_; have BK514 := n7_; have GW514 := n8_; have GE514 := n9_; have NB493_514 := n10_; have NB514_493 := n11_; have NB494_514 := n12_; have NB514_494 := n13_; have NB501_514 := n14_; have NB514_501 := n15_; clear n0_ n1_ n2_ n3_ n4_ n5_ n6_ n7_ n8_ n9_ n10_ n11_ n12_ n13_ n14_ n15_; clear hb hbox hg; have hnb25 := NB514_493.out; have hnc25 := NB493_514.out; have hnb26 := NB514_494.out; have hnc26 := NB494_514.out; have hnb27 := NB514_501.out; have hnc27 := NB501_514.out; have hcz28_0 : w24.cell? ⟨gb514, 0, none⟩ = some (.int .i64 0) := (blk_cell BK514.out 0).trans rfl; have hcz28_1 : w24.cell? ⟨gb514, 1, none⟩ = some (.int .i64 0) := (blk_cell BK514.out 1).trans rfl; have hcz28_2 : w24.cell? ⟨gb514, 2, none⟩ = some (.slice none 0 0) := (blk_cell BK514.out 2).trans rfl; have hcz28_3 : w24.cell? ⟨gb514, 3, none⟩ = some (.int .i64 0) := (blk_cell BK514.out 3).trans rfl; have hfz28_0 := blk_frozen BK514.out 0; have hfz28_1 := blk_frozen BK514.out 1; have hfz28_2 := blk_frozen BK514.out 2; have hfz28_3 := blk_frozen BK514.out 3; obtain ⟨Ao29, co29, eo29⟩ := Kd.R_slice HO509.out; subst eo29; have hcz30_0 : w24.cell? ⟨gb493, 0, none⟩ = some (.int .i64 a0_0) := (blk_cell BK493.out 0).trans rfl; have hcz30_1 : w24.cell? ⟨gb493, 1, none⟩ = some (.int .i64 a0_1) := (blk_cell BK493.out 1).trans rfl; have hcz30_2 : w24.cell? ⟨gb493, 2, none⟩ = some (.slice A0_2 l0_2.length c0_2) := (blk_cell BK493.out 2).trans rfl; have hcz30_3 : w24.cell? ⟨gb493, 3, none⟩ = some (.int .i64 a0_3) := (blk_cell BK493.out 3).trans rfl; have hfz30_0 := blk_frozen BK493.out 0; have hfz30_1 := blk_frozen BK493.out 1; have hfz30_2 := blk_frozen BK493.out 2; have hfz30_3 := blk_frozen BK493.out 3; have hcz31_0 : w24.cell? ⟨gb494, 0, none⟩ = some (.int .i64 a1_0) := (blk_cell BK494.out 0).trans rfl; have hcz31_1 : w24.cell? ⟨gb494, 1, none⟩ = some (.int .i64 a1_1) := (blk_cell BK494.out 1).trans rfl; have hcz31_2 : w24.cell? ⟨gb494, 2, none⟩ = some (.slice A1_2 l1_2.length c1_2) := (blk_cell BK494.out 2).trans rfl; have hcz31_3 : w24.cell? ⟨gb494, 3, none⟩ = some (.int .i64 a1_3) := (blk_cell BK494.out 3).trans rfl; have hfz31_0 := blk_frozen BK494.out 0; have hfz31_1 := blk_frozen BK494.out 1; have hfz31_2 := blk_frozen BK494.out 2; have hfz31_3 := blk_frozen BK494.out 3) | ((with_reducible refine gate_callee (f := 21) rfl ?_); refine goesL_ (some 41) rfl rfl Try.func21 (by kernel_rfl) rfl #[.agg #[.int .i64 a0_0, .int .i64 a0_1, .slice A0_2 l0_2.length c0_2, .int .i64 a0_3], .agg #[.int .i64 a1_0, .int .i64 a1_1], .slice A1_2 l1_2.length c1_2, .int .i64 a1_3] rfl (by (try simp only [List.map_toArray, List.map_cons, List.map_nil]); first | done | rfl | (simp only [List.length_drop, List.length_take]; rfl)) ?_; (with_reducible refine (rialtoref08_Accept.calls k a0_0 a0_1 _ _ l0_2 a0_3 a1_0 a1_1 _ _ l1_2 a1_3 t515 t516 t517 t520 t521 t522 t523 _ ?side1 ?side2 ?side3 ?side4 A6.out).mono ?_); (case side1 => exact Kd.C_below HR0_2.out (by repeat (first | (with_reducible first | exact HB.out | apply below_alloc | apply pw_below_drewN | apply below_drew1 | refine below_set ?_ GE493.out | refine below_set ?_ GE494.out | refine below_set ?_ GE501.out | refine below_set ?_ GE514.out) | exact HB.out))); (case side2 => exact HC0_2.out); (case side3 => exact Kd.C_below HR1_2.out (by repeat (first | (with_reducible first | exact HB.out | apply below_alloc | apply pw_below_drewN | apply below_drew1 | refine below_set ?_ GE493.out | refine below_set ?_ GE494.out | refine below_set ?_ GE501.out | refine below_set ?_ GE514.out) | exact HB.out))); (case side4 => exact HC1_2.out); rintro e w32 ⟨v518, rfl, ho0, hb⟩; refine ⟨_, rfl, ?_⟩; have n0_ := Aside0.mk (Kd.R_elder' (by (with_reducible repeat (first | apply Kd.R_alloc | apply Kd.R_drewN | apply Kd.R_drew)); exact (Kd.R_mono (Kd.R_far (p := ⟨gb514, 3, none⟩) (Kd.R_far (p := ⟨gb514, 2, none⟩) (Kd.R_far (p := ⟨gb514, 1, none⟩) (Kd.R_far (p := ⟨gb514, 0, none⟩) (Kd.R_types HO499.out BK514.out (by decide)) (fun _ hk => hk.2) (.int .i64 t505)) (fun _ hk => hk.2) (.int .i64 t506)) (fun _ hk => hk.2) (.slice Ao29 t507.length co29)) (fun _ hk => hk.2) (.int .i64 t510)) (fun _ h_ => h_.1))) (Kd.R_base ho0) hb); have n1_ := Aside0.mk (Kd.R_elder' (by (with_reducible repeat (first | apply Kd.R_alloc | apply Kd.R_drewN | apply Kd.R_drew)); exact (Kd.R_mono (Kd.R_far (p := ⟨gb514, 3, none⟩) (Kd.R_far (p := ⟨gb514, 2, none⟩) (Kd.R_far (p := ⟨gb514, 1, none⟩) (Kd.R_far (p := ⟨gb514, 0, none⟩) (Kd.R_types HO504.out BK514.out (by decide)) (fun _ hk => hk.2) (.int .i64 t505)) (fun _ hk => hk.2) (.int .i64 t506)) (fun _ hk => hk.2) (.slice Ao29 t507.length co29)) (fun _ hk => hk.2) (.int .i64 t510)) (fun _ h_ => h_.1))) (Kd.R_base ho0) hb); have n2_ := Aside0.mk (Kd.R_elder' (by (with_reducible repeat (first | apply Kd.R_alloc | apply Kd.R_drewN | apply Kd.R_drew)); exact (Kd.R_mono (Kd.R_far (p := ⟨gb514, 3, none⟩) (Kd.R_far (p := ⟨gb514, 2, none⟩) (Kd.R_far (p := ⟨gb514, 1, none⟩) (Kd.R_far (p := ⟨gb514, 0, none⟩) (Kd.R_types HO509.out BK514.out (by decide)) (fun _ hk => hk.2) (.int .i64 t505)) (fun _ hk => hk.2) (.int .i64 t506)) (fun _ hk => hk.2) (.slice Ao29 t507.length co29)) (fun _ hk => hk.2) (.int .i64 t510)) (fun _ h_ => h_.1))) (Kd.R_base ho0) hb); have n3_ := Aside0.mk (Kd.R_lower (Kd.R_new' (Kd.R_new' (Kd.R_new' ho0 (Kd.R_lt (by (with_reducible repeat (first | apply Kd.R_alloc | apply Kd.R_drewN | apply Kd.R_drew)); exact (Kd.R_mono (Kd.R_far (p := ⟨gb514, 3, none⟩) (Kd.R_far (p := ⟨gb514, 2, none⟩) (Kd.R_far (p := ⟨gb514, 1, none⟩) (Kd.R_far (p := ⟨gb514, 0, none⟩) (Kd.R_types HO499.out BK514.out (by decide)) (fun _ hk => hk.2) (.int .i64 t505)) (fun _ hk => hk.2) (.int .i64 t506)) (fun _ hk => hk.2) (.slice Ao29 t507.length co29)) (fun _ hk => hk.2) (.int .i64 t510)) (fun _ h_ => h_.1))))) (Kd.R_lt (by (with_reducible repeat (first | apply Kd.R_alloc | apply Kd.R_drewN | apply Kd.R_drew)); exact (Kd.R_mono (Kd.R_far (p := ⟨gb514, 3, none⟩) (Kd.R_far (p := ⟨gb514, 2, none⟩) (Kd.R_far (p := ⟨gb514, 1, none⟩) (Kd.R_far (p := ⟨gb514, 0, none⟩) (Kd.R_types HO504.out BK514.out (by decide)) (fun _ hk => hk.2) (.int .i64 t505)) (fun _ hk => hk.2) (.int .i64 t506)) (fun _ hk => hk.2) (.slice Ao29 t507.length co29)) (fun _ hk => hk.2) (.int .i64 t510)) (fun _ h_ => h_.1))))) (Kd.R_lt (by (with_reducible repeat (first | apply Kd.R_alloc | apply Kd.R_drewN | apply Kd.R_drew)); exact (Kd.R_mono (Kd.R_far (p := ⟨gb514, 3, none⟩) (Kd.R_far (p := ⟨gb514, 2, none⟩) (Kd.R_far (p := ⟨gb514, 1, none⟩) (Kd.R_far (p := ⟨gb514, 0, none⟩) (Kd.R_types HO509.out BK514.out (by decide)) (fun _ hk => hk.2) (.int .i64 t505)) (fun _ hk => hk.2) (.int .i64 t506)) (fun _ hk => hk.2) (.slice Ao29 t507.length co29)) (fun _ hk => hk.2) (.int .i64 t510)) (fun _ h_ => h_.1))))) (below_size (by repeat (first | (with_reducible first | exact HB.out | apply below_alloc | apply pw_below_drewN | apply below_drew1 | refine below_set ?_ GE493.out | refine below_set ?_ GE494.out | refine below_set ?_ GE501.out | refine below_set ?_ GE514.out) | exact HB.out)))); have n4_ := Aside0.mk (blk_below (g := gb493) (o := .cells #[.int .i64 a0_0, .int .i64 a0_1, .slice A0_2 l0_2.length c0_2, .int .i64 a0_3] 26 (0, 0)) (by (with_reducible repeat (first | refine blk_drewN ?_ _ | refine blk_drew ?_ | refine blk_alloc ?_ _)); refine blk_far ?_ NB493_514.out _; (with_reducible repeat (first | refine blk_drewN ?_ _ | refine blk_drew ?_ | refine blk_alloc ?_ _)); refine blk_far ?_ NB493_514.out _; (with_reducible repeat (first | refine blk_drewN ?_ _ | refine blk_drew ?_ | refine blk_alloc ?_ _)); refine blk_far ?_ NB493_514.out _; (with_reducible repeat (first | refine blk_drewN ?_ _ | refine blk_drew ?_ | refine blk_alloc ?_ _)); refine blk_far ?_ NB493_514.out _; (with_reducible repeat (first | refine blk_drewN ?_ _ | refine blk_drew ?_ | refine blk_alloc ?_ _)); exact BK493.out) hb); have n5_ := Aside0.mk (blk_below (g := gb494) (o := .cells #[.int .i64 a1_0, .int .i64 a1_1, .slice A1_2 l1_2.length c1_2, .int .i64 a1_3] 41 (0, 0)) (by (with_reducible repeat (first | refine blk_drewN ?_ _ | refine blk_drew ?_ | refine blk_alloc ?_ _)); refine blk_far ?_ NB494_514.out _; (with_reducible repeat (first | refine blk_drewN ?_ _ | refine blk_drew ?_ | refine blk_alloc ?_ _)); refine blk_far ?_ NB494_514.out _; (with_reducible repeat (first | refine blk_drewN ?_ _ | refine blk_drew ?_ | refine blk_alloc ?_ _)); refine blk_far ?_ NB494_514.out _; (with_reducible repeat (first | refine blk_drewN ?_ _ | refine blk_drew ?_ | refine blk_alloc ?_ _)); refine blk_far ?_ NB494_514.out _; (with_reducible repeat (first | refine blk_drewN ?_ _ | refine blk_drew ?_ | refine blk_alloc ?_ _)); exact BK494.out) hb); have n6_ := Aside0.mk (blk_below (g := gb501) (o := .cells #[.int .i64 t495, .int .i64 t496, .slice Ao17 t497.length co17, .int .i64 t500] 26 (0, 0)) (by (with_reducible repeat (first | refine blk_drewN ?_ _ | refine blk_drew ?_ | refine blk_alloc ?_ _)); refine blk_far ?_ NB501_514.out _; (with_reducible repeat (first | refine blk_drewN ?_ _ | refine blk_drew ?_ | refine blk_alloc ?_ _)); refine blk_far ?_ NB501_514.out _; (with_reducible repeat (first | refine blk_drewN ?_ _ | refine blk_drew ?_ | refine blk_alloc ?_ _)); refine blk_far ?_ NB501_514.out _; (with_reducible repeat (first | refine blk_drewN ?_ _ | refine blk_drew ?_ | refine blk_alloc ?_ _)); refine blk_far ?_ NB501_514.out _; (with_reducible repeat (first | refine blk_drewN ?_ _ | refine blk_drew ?_ | refine blk_alloc ?_ _)); exact BK501.out) hb); have n7_ := Aside0.mk (blk_below (g := gb514) (o := .cells #[.int .i64 t505, .int .i64 t506, .slice Ao29 t507.length co29, .int .i64 t510] 26 (0, 0)) (by (with_reducible repeat (first | refine blk_drewN ?_ _ | refine blk_drew ?_ | refine blk_alloc ?_ _)); refine blk_put (cs := #[.int .i64 t505, .int .i64 t506, .slice Ao29 t507.length co29, .int .i64 0]) ?_ 3 _ rfl; (with_reducible repeat (first | refine blk_drewN ?_ _ | refine blk_drew ?_ | refine blk_alloc ?_ _)); refine blk_put (cs := #[.int .i64 t505, .int .i64 t506, .slice none 0 0, .int .i64 0]) ?_ 2 _ rfl; (with_reducible repeat (first | refine blk_drewN ?_ _ | refine blk_drew ?_ | refine blk_alloc ?_ _)); refine blk_put (cs := #[.int .i64 t505, .int .i64 0, .slice none 0 0, .int .i64 0]) ?_ 1 _ rfl; (with_reducible repeat (first | refine blk_drewN ?_ _ | refine blk_drew ?_ | refine blk_alloc ?_ _)); refine blk_put (cs := #[.int .i64 0, .int .i64 0, .slice none 0 0, .int .i64 0]) ?_ 0 _ rfl; (with_reducible repeat (first | refine blk_drewN ?_ _ | refine blk_drew ?_ | refine blk_alloc ?_ _)); exact BK514.out) hb); have n8_ := Aside0.mk (below_step (by repeat (first | (with_reducible first | exact HB.out | apply below_alloc | apply pw_below_drewN | apply below_drew1 | refine below_set ?_ GE493.out | refine below_set ?_ GE494.out | refine below_set ?_ GE501.out | refine below_set ?_ GE514.out) | exact HB.out)) hb); clear HO499; clear HO504; clear HO509; clear BK493; clear BK494; clear BK501; clear BK514; clear HB; have HO499 := n0_; have HO504 := n1_; have HO509 := n2_; have HO519 := n3_; have BK493 := n4_; have BK494 := n5_; have BK501 := n6_; have BK514 := n7_; have HB := n8_; clear n0_ n1_ n2_ n3_ n4_ n5_ n6_ n7_ n8_; (try clear hb); (try clear hb2); (try clear hk); (try clear hi); (try clear ho0)) | ((with_reducible refine gate_dst (N := 11) rfl ?_); refine box_event ?hg (N := 11) ?hd (cs := #[.int .i64 0, .int .i64 0, .slice none 0 0, .int .i64 0]) (t := 26) ?hr ?_; (case hd => rfl); (case hg => rfl); (case hr => first | (go_simp; done) | (go_simp; rfl)); intro gb524 hg w33 hbox hb; have n0_ := Aside0.mk (Kd.R_below (by (with_reducible repeat (first | apply Kd.R_alloc | apply Kd.R_drewN | apply Kd.R_drew)); exact HO499.out) hb); have n1_ := Aside0.mk (Kd.R_below (by (with_reducible repeat (first | apply Kd.R_alloc | apply Kd.R_drewN | apply Kd.R_drew)); exact HO504.out) hb); have n2_ := Aside0.mk (Kd.R_below (by (with_reducible repeat (first | apply Kd.R_alloc | apply Kd.R_drewN | apply Kd.R_drew)); exact HO509.out) hb); have n3_ := Aside0.mk (Kd.R_below (by (with_reducible repeat (first | apply Kd.R_alloc | apply Kd.R_drewN | apply Kd.R_drew)); exact HO519.out) hb); have n4_ := Aside0.mk (blk_below (g := gb493) (o := .cells #[.int .i64 a0_0, .int .i64 a0_1, .slice A0_2 l0_2.length c0_2, .int .i64 a0_3] 26 (0, 0)) (by (with_reducible repeat (first | refine blk_drewN ?_ _ | refine blk_drew ?_ | refine blk_alloc ?_ _)); exact BK493.out) hb); have n5_ := Aside0.mk (blk_below (g := gb494) (o := .cells #[.int .i64 a1_0, .int .i64 a1_1, .slice A1_2 l1_2.length c1_2, .int .i64 a1_3] 41 (0, 0)) (by (with_reducible repeat (first | refine blk_drewN ?_ _ | refine blk_drew ?_ | refine blk_alloc ?_ _)); exact BK494.out) hb); have n6_ := Aside0.mk (blk_below (g := gb501) (o := .cells #[.int .i64 t495, .int .i64 t496, .slice Ao17 t497.length co17, .int .i64 t500] 26 (0, 0)) (by (with_reducible repeat (first | refine blk_drewN ?_ _ | refine blk_drew ?_ | refine blk_alloc ?_ _)); exact BK501.out) hb); have n7_ := Aside0.mk (blk_below (g := gb514) (o := .cells #[.int .i64 t505, .int .i64 t506, .slice Ao29 t507.length co29, .int .i64 t510] 26 (0, 0)) (by (with_reducible repeat (first | refine blk_drewN ?_ _ | refine blk_drew ?_ | refine blk_alloc ?_ _)); exact BK514.out) hb); have n8_ := Aside0.mk (below_step (by repeat (first | (with_reducible first | exact HB.out | apply below_alloc | apply pw_below_drewN | apply below_drew1 | refine below_set ?_ GE493.out | refine below_set ?_ GE494.out | refine below_set ?_ GE501.out | refine below_set ?_ GE514.out) | exact HB.out)) hb); have n9_ := Aside0.mk (hbox); have n10_ := Aside0.mk ((by rw [hg]; exact (below_size (by repeat (first | (with_reducible first | exact HB.out | apply below_alloc | apply pw_below_drewN | apply below_drew1 | refine below_set ?_ GE493.out | refine below_set ?_ GE494.out | refine below_set ?_ GE501.out | refine below_set ?_ GE514.out) | exact HB.out))) : w.heap.size ≤ gb524)); have n11_ := Aside0.mk ((by rw [hg]; exact (below_size (by repeat (first | (with_reducible first | exact HB.out | apply below_alloc | apply pw_below_drewN | apply below_drew1 | refine below_set ?_ GE493.out | refine below_set ?_ GE494.out | refine below_set ?_ GE501.out | refine below_set ?_ GE514.out) | exact HB.out))) : w.heap.size ≤ gb524)); have n12_ := Aside0.mk ((by rw [hg]; exact Nat.ne_of_lt (blk_lt (g := gb493) (o := .cells #[.int .i64 a0_0, .int .i64 a0_1, .slice A0_2 l0_2.length c0_2, .int .i64 a0_3] 26 (0, 0)) (by (with_reducible repeat (first | refine blk_drewN ?_ _ | refine blk_drew ?_ | refine blk_alloc ?_ _)); exact BK493.out)) : gb493 ≠ gb524)); have n13_ := Aside0.mk ((by rw [hg]; exact Nat.ne_of_gt (blk_lt (g := gb493) (o := .cells #[.int .i64 a0_0, .int .i64 a0_1, .slice A0_2 l0_2.length c0_2, .int .i64 a0_3] 26 (0, 0)) (by (with_reducible repeat (first | refine blk_drewN ?_ _ | refine blk_drew ?_ | refine blk_alloc ?_ _)); exact BK493.out)) : gb524 ≠ gb493)); have n14_ := Aside0.mk ((by rw [hg]; exact Nat.ne_of_lt (blk_lt (g := gb494) (o := .cells #[.int .i64 a1_0, .int .i64 a1_1, .slice A1_2 l1_2.length c1_2, .int .i64 a1_3] 41 (0, 0)) (by (with_reducible repeat (first | refine blk_drewN ?_ _ | refine blk_drew ?_ | refine blk_alloc ?_ _)); exact BK494.out)) : gb494 ≠ gb524)); have n15_ := Aside0.mk ((by rw [hg]; exact Nat.ne_of_gt (blk_lt (g := gb494) (o := .cells #[.int .i64 a1_0, .int .i64 a1_1, .slice A1_2 l1_2.length c1_2, .int .i64 a1_3] 41 (0, 0)) (by (with_reducible repeat (first | refine blk_drewN ?_ _ | refine blk_drew ?_ | refine blk_alloc ?_ _)); exact BK494.out)) : gb524 ≠ gb494)); have n16_ := Aside0.mk ((by rw [hg]; exact Nat.ne_of_lt (blk_lt (g := gb501) (o := .cells #[.int .i64 t495, .int .i64 t496, .slice Ao17 t497.length co17, .int .i64 t500] 26 (0, 0)) (by (with_reducible repeat (first | refine blk_drewN ?_ _ | refine blk_drew ?_ | refine blk_alloc ?_ _)); exact BK501.out)) : gb501 ≠ gb524)); have n17_ := Aside0.mk ((by rw [hg]; exact Nat.ne_of_gt (blk_lt (g := gb501) (o := .cells #[.int .i64 t495, .int .i64 t496, .slice Ao17 t497.length co17, .int .i64 t500] 26 (0, 0)) (by (with_reducible repeat (first | refine blk_drewN ?_ _ | refine blk_drew ?_ | refine blk_alloc ?_ _)); exact BK501.out)) : gb524 ≠ gb501)); have n18_ := Aside0.mk ((by rw [hg]; exact Nat.ne_of_lt (blk_lt (g := gb514) (o := .cells #[.int .i64 t505, .int .i64 t506, .slice Ao29 t507.length co29, .int .i64 t510] 26 (0, 0)) (by (with_reducible repeat (first | refine blk_drewN ?_ _ | refine blk_drew ?_ | refine blk_alloc ?_ _)); exact BK514.out)) : gb514 ≠ gb524)); have n19_ := Aside0.mk ((by rw [hg]; exact Nat.ne_of_gt (blk_lt (g := gb514) (o := .cells #[.int .i64 t505, .int .i64 t506, .slice Ao29 t507.length co29, .int .i64 t510] 26 (0, 0)) (by (with_reducible repeat (first | refine blk_drewN ?_ _ | refine blk_drew ?_ | refine blk_alloc ?_ _)); exact BK514.out)) : gb524 ≠ gb514)); clear HO499; clear HO504; clear HO509; clear HO519; clear BK493; clear BK494; clear BK501; clear BK514; clear HB; have HO499 := n0_; have HO504 := n1_; have HO509 := n2_; have HO519 := n3_; have BK493 := n4_; have BK494 := n5_; have BK501 := n6_; have BK514 := n7_; have HB := n8_; have BK524 := n9_; have GW524 := n10_; have GE524 := n11_; have NB493_524 := n12_; have NB524_493 := n13_; have NB494_524 := n14_; have NB524_494 := n15_; have NB501_524 := n16_; have NB524_501 := n17_; have NB514_524 := n18_; have NB524_514 := n19_; clear n0_ n1_ n2_ n3_ n4_ n5_ n6_ n7_ n8_ n9_ n10_ n11_ n12_ n13_ n14_ n15_ n16_ n17_ n18_ n19_; clear hb hbox hg; have hnb34 := NB524_493.out; have hnc34 := NB493_524.out; have hnb35 := NB524_494.out; have hnc35 := NB494_524.out; have hnb36 := NB524_501.out; have hnc36 := NB501_524.out; have hnb37 := NB524_514.out; have hnc37 := NB514_524.out; have hcz38_0 : w33.cell? ⟨gb524, 0, none⟩ = some (.int .i64 0) := (blk_cell BK524.out 0).trans rfl; have hcz38_1 : w33.cell? ⟨gb524, 1, none⟩ = some (.int .i64 0) := (blk_cell BK524.out 1).trans rfl; have hcz38_2 : w33.cell? ⟨gb524, 2, none⟩ = some (.slice none 0 0) := (blk_cell BK524.out 2).trans rfl; have hcz38_3 : w33.cell? ⟨gb524, 3, none⟩ = some (.int .i64 0) := (blk_cell BK524.out 3).trans rfl; have hfz38_0 := blk_frozen BK524.out 0; have hfz38_1 := blk_frozen BK524.out 1; have hfz38_2 := blk_frozen BK524.out 2; have hfz38_3 := blk_frozen BK524.out 3; obtain ⟨Ao39, co39, eo39⟩ := Kd.R_slice HO519.out; subst eo39))
    (try simp only [Act.put, List.setIfInBounds_toArray, List.set_cons_zero, List.set_cons_succ])
    go_cut [77] (fun v77 wc => ∃ (kq : Nat) (x77_6 : Bool), v77 = .bool x77_6 ∧ Aside0 (rialtolaw08_EntriesAccept.j0 kq y502 x77_6 a0_0 a0_1 l0_2 a0_3 a1_0 a1_1 l1_2 a1_3 t495 t496 t497 t500 t505 t506 t507 t510 = some r) ∧ Aside0 (kq ≤ k) ∧ Aside0 (Kd.R k33 33 wc w.heap.size (fun k_ => some k_ ≠ ((.slice Ao17 t497.length co17) : Value).ownBlock ∧ some k_ ≠ ((.slice Ao29 t507.length co29) : Value).ownBlock ∧ some k_ ≠ ((.slice Ao39 t517.length co39) : Value).ownBlock) (.slice Ao22 y502.length co22) y502) ∧ Aside0 (Kd.R k33 33 wc w.heap.size (fun k_ => some k_ ≠ ((.slice Ao22 y502.length co22) : Value).ownBlock ∧ some k_ ≠ ((.slice Ao29 t507.length co29) : Value).ownBlock ∧ some k_ ≠ ((.slice Ao39 t517.length co39) : Value).ownBlock) (.slice Ao17 t497.length co17) t497) ∧ Aside0 (Kd.R k33 33 wc w.heap.size (fun k_ => some k_ ≠ ((.slice Ao22 y502.length co22) : Value).ownBlock ∧ some k_ ≠ ((.slice Ao17 t497.length co17) : Value).ownBlock ∧ some k_ ≠ ((.slice Ao39 t517.length co39) : Value).ownBlock) (.slice Ao29 t507.length co29) t507) ∧ Aside0 (Kd.R k33 33 wc w.heap.size (fun k_ => some k_ ≠ ((.slice Ao22 y502.length co22) : Value).ownBlock ∧ some k_ ≠ ((.slice Ao17 t497.length co17) : Value).ownBlock ∧ some k_ ≠ ((.slice Ao29 t507.length co29) : Value).ownBlock) (.slice Ao39 t517.length co39) t517) ∧ Aside0 (wc.heap[gb493]? = some (.cells #[.int .i64 a0_0, .int .i64 a0_1, (.slice A0_2 l0_2.length c0_2), .int .i64 a0_3] 26 (0, 0))) ∧ Aside0 (wc.heap[gb494]? = some (.cells #[.int .i64 a1_0, .int .i64 a1_1, (.slice A1_2 l1_2.length c1_2), .int .i64 a1_3] 41 (0, 0))) ∧ Aside0 (wc.heap[gb501]? = some (.cells #[.int .i64 t495, .int .i64 t496, (.slice Ao17 t497.length co17), .int .i64 t500] 26 (0, 0))) ∧ Aside0 (wc.heap[gb514]? = some (.cells #[.int .i64 t505, .int .i64 t506, (.slice Ao29 t507.length co29), .int .i64 t510] 26 (0, 0))) ∧ Aside0 (wc.heap[gb524]? = some (.cells #[.int .i64 t515, .int .i64 t516, (.slice Ao39 t517.length co39), .int .i64 t520] 26 (0, 0))) ∧ Aside0 (Below w.heap.size w wc))
    case first =>
      have H := HC7.out
      clear HC7
      replace H := Option.bind_eq_some_iff.mp H
      obtain ⟨t525, A400, H⟩ := H
      replace H : (if t525 = true then (if t511 = t521 then (if (t512 != t522) = true then (rialtolaw08_EntriesAccept.j0 k y502 true a0_0 a0_1 l0_2 a0_3 a1_0 a1_1 l1_2 a1_3 t495 t496 t497 t500 t505 t506 t507 t510) else (if t513 = t523 then ((rialtoref08_Same.f k t495 t496 t497 t500 a0_0 a0_1 l0_2 a0_3).bind fun t526 => (if t526 = true then ((rialtoref08_SameEntries.f k y502 l1_2).bind fun t527 => (rialtolaw08_EntriesAccept.j0 k y502 (!t527) a0_0 a0_1 l0_2 a0_3 a1_0 a1_1 l1_2 a1_3 t495 t496 t497 t500 t505 t506 t507 t510)) else (rialtolaw08_EntriesAccept.j0 k y502 true a0_0 a0_1 l0_2 a0_3 a1_0 a1_1 l1_2 a1_3 t495 t496 t497 t500 t505 t506 t507 t510))) else (rialtolaw08_EntriesAccept.j0 k y502 true a0_0 a0_1 l0_2 a0_3 a1_0 a1_1 l1_2 a1_3 t495 t496 t497 t500 t505 t506 t507 t510))) else (rialtolaw08_EntriesAccept.j0 k y502 true a0_0 a0_1 l0_2 a0_3 a1_0 a1_1 l1_2 a1_3 t495 t496 t497 t500 t505 t506 t507 t510)) else (rialtolaw08_EntriesAccept.j0 k y502 true a0_0 a0_1 l0_2 a0_3 a1_0 a1_1 l1_2 a1_3 t495 t496 t497 t500 t505 t506 t507 t510)) = some r := H
      have A40 := Aside0.mk A400
      clear A400
      by_cases c41 : t525 = true
      · subst c41
        have H1 : (if t511 = t521 then (if (t512 != t522) = true then (rialtolaw08_EntriesAccept.j0 k y502 true a0_0 a0_1 l0_2 a0_3 a1_0 a1_1 l1_2 a1_3 t495 t496 t497 t500 t505 t506 t507 t510) else (if t513 = t523 then ((rialtoref08_Same.f k t495 t496 t497 t500 a0_0 a0_1 l0_2 a0_3).bind fun t526 => (if t526 = true then ((rialtoref08_SameEntries.f k y502 l1_2).bind fun t527 => (rialtolaw08_EntriesAccept.j0 k y502 (!t527) a0_0 a0_1 l0_2 a0_3 a1_0 a1_1 l1_2 a1_3 t495 t496 t497 t500 t505 t506 t507 t510)) else (rialtolaw08_EntriesAccept.j0 k y502 true a0_0 a0_1 l0_2 a0_3 a1_0 a1_1 l1_2 a1_3 t495 t496 t497 t500 t505 t506 t507 t510))) else (rialtolaw08_EntriesAccept.j0 k y502 true a0_0 a0_1 l0_2 a0_3 a1_0 a1_1 l1_2 a1_3 t495 t496 t497 t500 t505 t506 t507 t510))) else (rialtolaw08_EntriesAccept.j0 k y502 true a0_0 a0_1 l0_2 a0_3 a1_0 a1_1 l1_2 a1_3 t495 t496 t497 t500 t505 t506 t507 t510)) = some r := by rw [if_pos rfl] at H; exact H
        clear H
        have H := H1
        clear H1
        by_cases c42 : t511 = t521
        · rw [if_pos c42] at H
          have c42b0 : (t511 == t521) = true := beq_iff_eq.mpr c42
          have c42b1 : (t511 != t521) = false := bne_eq_false_iff_eq.mpr c42
          clear c42
          (first | rw [c42b0] | (simp only [i64_w, i32_w]; rw [c42b0]) | skip)
          by_cases c43 : (t512 != t522) = true
          · rw [if_pos c43] at H
            have c43b0 : (t512 != t522) = true := c43
            (try (have c43b1 : decide (t512 = t522) = false := by simpa using c43))
            (try (have c43b2 : (t512 == t522) = false := by simpa using c43))
            (try (have c43b3 : ¬ (t512 = t522) := by simpa using c43))
            clear c43
            have H' := Aside0.mk H
            clear H
            have hnb44 := NB514_493.out
            have hnc44 := NB493_514.out
            have hnb45 := NB514_494.out
            have hnc45 := NB494_514.out
            have hnb46 := NB514_501.out
            have hnc46 := NB501_514.out
            have hnb47 := NB514_524.out
            have hnc47 := NB524_514.out
            have hcz48_0 : w33.cell? ⟨gb514, 0, none⟩ = some (.int .i64 t505) := (blk_cell BK514.out 0).trans rfl
            have hcz48_1 : w33.cell? ⟨gb514, 1, none⟩ = some (.int .i64 t506) := (blk_cell BK514.out 1).trans rfl
            have hcz48_2 : w33.cell? ⟨gb514, 2, none⟩ = some (.slice Ao29 t507.length co29) := (blk_cell BK514.out 2).trans rfl
            have hcz48_3 : w33.cell? ⟨gb514, 3, none⟩ = some (.int .i64 t510) := (blk_cell BK514.out 3).trans rfl
            have hfz48_0 := blk_frozen BK514.out 0
            have hfz48_1 := blk_frozen BK514.out 1
            have hfz48_2 := blk_frozen BK514.out 2
            have hfz48_3 := blk_frozen BK514.out 3
            have hnb49 := NB524_493.out
            have hnc49 := NB493_524.out
            have hnb50 := NB524_494.out
            have hnc50 := NB494_524.out
            have hnb51 := NB524_501.out
            have hnc51 := NB501_524.out
            have hcz52_0 : w33.cell? ⟨gb524, 0, none⟩ = some (.int .i64 0) := (blk_cell BK524.out 0).trans rfl
            have hcz52_1 : w33.cell? ⟨gb524, 1, none⟩ = some (.int .i64 0) := (blk_cell BK524.out 1).trans rfl
            have hcz52_2 : w33.cell? ⟨gb524, 2, none⟩ = some (.slice none 0 0) := (blk_cell BK524.out 2).trans rfl
            have hcz52_3 : w33.cell? ⟨gb524, 3, none⟩ = some (.int .i64 0) := (blk_cell BK524.out 3).trans rfl
            have hfz52_0 := blk_frozen BK524.out 0
            have hfz52_1 := blk_frozen BK524.out 1
            have hfz52_2 := blk_frozen BK524.out 2
            have hfz52_3 := blk_frozen BK524.out 3
            go_wp2_with (first | ((with_reducible refine gate_callee (f := 16) rfl ?_); refine goesL_ (some 48) rfl rfl Try.func16 (by kernel_rfl) rfl #[.agg #[.int .i64 t505, .int .i64 t506, .slice Ao29 t507.length co29, .int .i64 t510], .agg #[.int .i64 t515, .int .i64 t516, .slice Ao39 t517.length co39, .int .i64 t520]] rfl (by (try simp only [List.map_toArray, List.map_cons, List.map_nil]); first | done | rfl | (simp only [List.length_drop, List.length_take]; rfl)) ?_; (with_reducible refine (rialtoref08_Same.calls k t505 t506 _ _ t507 t510 t515 t516 _ _ t517 t520 true _ ?side1 ?side2 ?side3 ?side4 A40.out).mono ?_); (case side1 => refine (Kd.R_reads' (e := 33) (base := w.heap.size) (ok := fun k_ => (((True ∧ some k_ ≠ (.slice Ao17 t497.length co17 : Value).ownBlock) ∧ some k_ ≠ (.slice Ao22 y502.length co22 : Value).ownBlock) ∧ some k_ ≠ (.slice Ao39 t517.length co39 : Value).ownBlock)) (n := t507.length) (c := co29) ?_).2.2; exact (by (with_reducible repeat (first | apply Kd.R_alloc | apply Kd.R_drewN | apply Kd.R_drew)); exact (Kd.R_mono (Kd.R_far (p := ⟨gb524, 3, none⟩) (Kd.R_far (p := ⟨gb524, 2, none⟩) (Kd.R_far (p := ⟨gb524, 1, none⟩) (Kd.R_far (p := ⟨gb524, 0, none⟩) (Kd.R_types HO509.out BK524.out (by decide)) (fun _ hk => hk.2) (.int .i64 t515)) (fun _ hk => hk.2) (.int .i64 t516)) (fun _ hk => hk.2) (.slice Ao39 t517.length co39)) (fun _ hk => hk.2) (.int .i64 t520)) (fun _ h_ => h_.1)))); (case side2 => exact (Kd.R_reads' HO509.out).2.1); (case side3 => refine (Kd.R_reads' (e := 33) (base := w.heap.size) (ok := fun k_ => (((True ∧ some k_ ≠ (.slice Ao17 t497.length co17 : Value).ownBlock) ∧ some k_ ≠ (.slice Ao22 y502.length co22 : Value).ownBlock) ∧ some k_ ≠ (.slice Ao29 t507.length co29 : Value).ownBlock)) (n := t517.length) (c := co39) ?_).2.2; exact (by (with_reducible repeat (first | apply Kd.R_alloc | apply Kd.R_drewN | apply Kd.R_drew)); exact (Kd.R_mono (Kd.R_far (p := ⟨gb524, 3, none⟩) (Kd.R_far (p := ⟨gb524, 2, none⟩) (Kd.R_far (p := ⟨gb524, 1, none⟩) (Kd.R_far (p := ⟨gb524, 0, none⟩) (Kd.R_types HO519.out BK524.out (by decide)) (fun _ hk => hk.2) (.int .i64 t515)) (fun _ hk => hk.2) (.int .i64 t516)) (fun _ hk => hk.2) (.slice Ao39 t517.length co39)) (fun _ hk => hk.2) (.int .i64 t520)) (fun _ h_ => h_.1)))); (case side4 => exact (Kd.R_reads' HO519.out).2.1); rintro e w53 ⟨rfl, hb⟩; refine ⟨_, rfl, ?_⟩; have n0_ := Aside0.mk (Kd.R_below (by (with_reducible repeat (first | apply Kd.R_alloc | apply Kd.R_drewN | apply Kd.R_drew)); exact (Kd.R_mono (Kd.R_far (p := ⟨gb524, 3, none⟩) (Kd.R_far (p := ⟨gb524, 2, none⟩) (Kd.R_far (p := ⟨gb524, 1, none⟩) (Kd.R_far (p := ⟨gb524, 0, none⟩) (Kd.R_types HO499.out BK524.out (by decide)) (fun _ hk => hk.2) (.int .i64 t515)) (fun _ hk => hk.2) (.int .i64 t516)) (fun _ hk => hk.2) (.slice Ao39 t517.length co39)) (fun _ hk => hk.2) (.int .i64 t520)) (fun _ h_ => h_.1))) hb); have n1_ := Aside0.mk (Kd.R_below (by (with_reducible repeat (first | apply Kd.R_alloc | apply Kd.R_drewN | apply Kd.R_drew)); exact (Kd.R_mono (Kd.R_far (p := ⟨gb524, 3, none⟩) (Kd.R_far (p := ⟨gb524, 2, none⟩) (Kd.R_far (p := ⟨gb524, 1, none⟩) (Kd.R_far (p := ⟨gb524, 0, none⟩) (Kd.R_types HO504.out BK524.out (by decide)) (fun _ hk => hk.2) (.int .i64 t515)) (fun _ hk => hk.2) (.int .i64 t516)) (fun _ hk => hk.2) (.slice Ao39 t517.length co39)) (fun _ hk => hk.2) (.int .i64 t520)) (fun _ h_ => h_.1))) hb); have n2_ := Aside0.mk (Kd.R_below (by (with_reducible repeat (first | apply Kd.R_alloc | apply Kd.R_drewN | apply Kd.R_drew)); exact (Kd.R_mono (Kd.R_far (p := ⟨gb524, 3, none⟩) (Kd.R_far (p := ⟨gb524, 2, none⟩) (Kd.R_far (p := ⟨gb524, 1, none⟩) (Kd.R_far (p := ⟨gb524, 0, none⟩) (Kd.R_types HO509.out BK524.out (by decide)) (fun _ hk => hk.2) (.int .i64 t515)) (fun _ hk => hk.2) (.int .i64 t516)) (fun _ hk => hk.2) (.slice Ao39 t517.length co39)) (fun _ hk => hk.2) (.int .i64 t520)) (fun _ h_ => h_.1))) hb); have n3_ := Aside0.mk (Kd.R_below (by (with_reducible repeat (first | apply Kd.R_alloc | apply Kd.R_drewN | apply Kd.R_drew)); exact (Kd.R_mono (Kd.R_far (p := ⟨gb524, 3, none⟩) (Kd.R_far (p := ⟨gb524, 2, none⟩) (Kd.R_far (p := ⟨gb524, 1, none⟩) (Kd.R_far (p := ⟨gb524, 0, none⟩) (Kd.R_types HO519.out BK524.out (by decide)) (fun _ hk => hk.2) (.int .i64 t515)) (fun _ hk => hk.2) (.int .i64 t516)) (fun _ hk => hk.2) (.slice Ao39 t517.length co39)) (fun _ hk => hk.2) (.int .i64 t520)) (fun _ h_ => h_.1))) hb); have n4_ := Aside0.mk (blk_below (g := gb493) (o := .cells #[.int .i64 a0_0, .int .i64 a0_1, .slice A0_2 l0_2.length c0_2, .int .i64 a0_3] 26 (0, 0)) (by (with_reducible repeat (first | refine blk_drewN ?_ _ | refine blk_drew ?_ | refine blk_alloc ?_ _)); refine blk_far ?_ NB493_524.out _; (with_reducible repeat (first | refine blk_drewN ?_ _ | refine blk_drew ?_ | refine blk_alloc ?_ _)); refine blk_far ?_ NB493_524.out _; (with_reducible repeat (first | refine blk_drewN ?_ _ | refine blk_drew ?_ | refine blk_alloc ?_ _)); refine blk_far ?_ NB493_524.out _; (with_reducible repeat (first | refine blk_drewN ?_ _ | refine blk_drew ?_ | refine blk_alloc ?_ _)); refine blk_far ?_ NB493_524.out _; (with_reducible repeat (first | refine blk_drewN ?_ _ | refine blk_drew ?_ | refine blk_alloc ?_ _)); exact BK493.out) hb); have n5_ := Aside0.mk (blk_below (g := gb494) (o := .cells #[.int .i64 a1_0, .int .i64 a1_1, .slice A1_2 l1_2.length c1_2, .int .i64 a1_3] 41 (0, 0)) (by (with_reducible repeat (first | refine blk_drewN ?_ _ | refine blk_drew ?_ | refine blk_alloc ?_ _)); refine blk_far ?_ NB494_524.out _; (with_reducible repeat (first | refine blk_drewN ?_ _ | refine blk_drew ?_ | refine blk_alloc ?_ _)); refine blk_far ?_ NB494_524.out _; (with_reducible repeat (first | refine blk_drewN ?_ _ | refine blk_drew ?_ | refine blk_alloc ?_ _)); refine blk_far ?_ NB494_524.out _; (with_reducible repeat (first | refine blk_drewN ?_ _ | refine blk_drew ?_ | refine blk_alloc ?_ _)); refine blk_far ?_ NB494_524.out _; (with_reducible repeat (first | refine blk_drewN ?_ _ | refine blk_drew ?_ | refine blk_alloc ?_ _)); exact BK494.out) hb); have n6_ := Aside0.mk (blk_below (g := gb501) (o := .cells #[.int .i64 t495, .int .i64 t496, .slice Ao17 t497.length co17, .int .i64 t500] 26 (0, 0)) (by (with_reducible repeat (first | refine blk_drewN ?_ _ | refine blk_drew ?_ | refine blk_alloc ?_ _)); refine blk_far ?_ NB501_524.out _; (with_reducible repeat (first | refine blk_drewN ?_ _ | refine blk_drew ?_ | refine blk_alloc ?_ _)); refine blk_far ?_ NB501_524.out _; (with_reducible repeat (first | refine blk_drewN ?_ _ | refine blk_drew ?_ | refine blk_alloc ?_ _)); refine blk_far ?_ NB501_524.out _; (with_reducible repeat (first | refine blk_drewN ?_ _ | refine blk_drew ?_ | refine blk_alloc ?_ _)); refine blk_far ?_ NB501_524.out _; (with_reducible repeat (first | refine blk_drewN ?_ _ | refine blk_drew ?_ | refine blk_alloc ?_ _)); exact BK501.out) hb); have n7_ := Aside0.mk (blk_below (g := gb514) (o := .cells #[.int .i64 t505, .int .i64 t506, .slice Ao29 t507.length co29, .int .i64 t510] 26 (0, 0)) (by (with_reducible repeat (first | refine blk_drewN ?_ _ | refine blk_drew ?_ | refine blk_alloc ?_ _)); refine blk_far ?_ NB514_524.out _; (with_reducible repeat (first | refine blk_drewN ?_ _ | refine blk_drew ?_ | refine blk_alloc ?_ _)); refine blk_far ?_ NB514_524.out _; (with_reducible repeat (first | refine blk_drewN ?_ _ | refine blk_drew ?_ | refine blk_alloc ?_ _)); refine blk_far ?_ NB514_524.out _; (with_reducible repeat (first | refine blk_drewN ?_ _ | refine blk_drew ?_ | refine blk_alloc ?_ _)); refine blk_far ?_ NB514_524.out _; (with_reducible repeat (first | refine blk_drewN ?_ _ | refine blk_drew ?_ | refine blk_alloc ?_ _)); exact BK514.out) hb); have n8_ := Aside0.mk (blk_below (g := gb524) (o := .cells #[.int .i64 t515, .int .i64 t516, .slice Ao39 t517.length co39, .int .i64 t520] 26 (0, 0)) (by (with_reducible repeat (first | refine blk_drewN ?_ _ | refine blk_drew ?_ | refine blk_alloc ?_ _)); refine blk_put (cs := #[.int .i64 t515, .int .i64 t516, .slice Ao39 t517.length co39, .int .i64 0]) ?_ 3 _ rfl; (with_reducible repeat (first | refine blk_drewN ?_ _ | refine blk_drew ?_ | refine blk_alloc ?_ _)); refine blk_put (cs := #[.int .i64 t515, .int .i64 t516, .slice none 0 0, .int .i64 0]) ?_ 2 _ rfl; (with_reducible repeat (first | refine blk_drewN ?_ _ | refine blk_drew ?_ | refine blk_alloc ?_ _)); refine blk_put (cs := #[.int .i64 t515, .int .i64 0, .slice none 0 0, .int .i64 0]) ?_ 1 _ rfl; (with_reducible repeat (first | refine blk_drewN ?_ _ | refine blk_drew ?_ | refine blk_alloc ?_ _)); refine blk_put (cs := #[.int .i64 0, .int .i64 0, .slice none 0 0, .int .i64 0]) ?_ 0 _ rfl; (with_reducible repeat (first | refine blk_drewN ?_ _ | refine blk_drew ?_ | refine blk_alloc ?_ _)); exact BK524.out) hb); have n9_ := Aside0.mk (below_step (by repeat (first | (with_reducible first | exact HB.out | apply below_alloc | apply pw_below_drewN | apply below_drew1 | refine below_set ?_ GE493.out | refine below_set ?_ GE494.out | refine below_set ?_ GE501.out | refine below_set ?_ GE514.out | refine below_set ?_ GE524.out) | exact HB.out)) hb); clear HO499; clear HO504; clear HO509; clear HO519; clear BK493; clear BK494; clear BK501; clear BK514; clear BK524; clear HB; have HO499 := n0_; have HO504 := n1_; have HO509 := n2_; have HO519 := n3_; have BK493 := n4_; have BK494 := n5_; have BK501 := n6_; have BK514 := n7_; have BK524 := n8_; have HB := n9_; clear n0_ n1_ n2_ n3_ n4_ n5_ n6_ n7_ n8_ n9_; (try clear hb); (try clear hb2); (try clear hk); (try clear hi)))
            go_meet
            case rel => exact ⟨_, (true), (by first | rfl | (simp; done) | (simp [*]; done)), H', ⟨by first | omega | exact Nat.le_refl _⟩, ⟨by (with_reducible repeat (first | apply Kd.R_alloc | apply Kd.R_drewN | apply Kd.R_drew)); exact Kd.R_mono HO504.out (fun _ hk => ⟨hk.1.1, ⟨hk.1.2, hk.2⟩⟩)⟩, ⟨by (with_reducible repeat (first | apply Kd.R_alloc | apply Kd.R_drewN | apply Kd.R_drew)); exact Kd.R_mono HO499.out (fun _ hk => ⟨hk.1.1.2, ⟨hk.1.2, hk.2⟩⟩)⟩, ⟨by (with_reducible repeat (first | apply Kd.R_alloc | apply Kd.R_drewN | apply Kd.R_drew)); exact Kd.R_mono HO509.out (fun _ hk => ⟨hk.1.2, ⟨hk.1.1.2, hk.2⟩⟩)⟩, ⟨by (with_reducible repeat (first | apply Kd.R_alloc | apply Kd.R_drewN | apply Kd.R_drew)); exact Kd.R_mono HO519.out (fun _ hk => ⟨hk.1.2, ⟨hk.1.1.2, hk.2⟩⟩)⟩, ⟨by (with_reducible repeat (first | refine blk_drewN ?_ _ | refine blk_drew ?_ | refine blk_alloc ?_ _)); exact BK493.out⟩, ⟨by (with_reducible repeat (first | refine blk_drewN ?_ _ | refine blk_drew ?_ | refine blk_alloc ?_ _)); exact BK494.out⟩, ⟨by (with_reducible repeat (first | refine blk_drewN ?_ _ | refine blk_drew ?_ | refine blk_alloc ?_ _)); exact BK501.out⟩, ⟨by (with_reducible repeat (first | refine blk_drewN ?_ _ | refine blk_drew ?_ | refine blk_alloc ?_ _)); exact BK514.out⟩, ⟨by (with_reducible repeat (first | refine blk_drewN ?_ _ | refine blk_drew ?_ | refine blk_alloc ?_ _)); exact BK524.out⟩, ⟨by repeat (first | (with_reducible first | exact HB.out | apply below_alloc | apply pw_below_drewN | apply below_drew1 | refine below_set ?_ GE493.out | refine below_set ?_ GE494.out | refine below_set ?_ GE501.out | refine below_set ?_ GE514.out | refine below_set ?_ GE524.out) | exact HB.out)⟩⟩
          · rw [if_neg c43] at H
            have c43b0 : (t512 != t522) = false := by simpa using c43
            (try (have c43b1 : decide (t512 = t522) = true := by simpa using c43))
            (try (have c43b2 : (t512 == t522) = true := by simpa using c43))
            clear c43
            by_cases c54 : t513 = t523
            focus
              rw [if_pos c54] at H
              have c54b0 : (t513 == t523) = true := beq_iff_eq.mpr c54
              have c54b1 : (t513 != t523) = false := bne_eq_false_iff_eq.mpr c54
              clear c54
              replace H := Option.bind_eq_some_iff.mp H
              obtain ⟨t526, A550, H⟩ := H
              replace H : (if t526 = true then ((rialtoref08_SameEntries.f k y502 l1_2).bind fun t527 => (rialtolaw08_EntriesAccept.j0 k y502 (!t527) a0_0 a0_1 l0_2 a0_3 a1_0 a1_1 l1_2 a1_3 t495 t496 t497 t500 t505 t506 t507 t510)) else (rialtolaw08_EntriesAccept.j0 k y502 true a0_0 a0_1 l0_2 a0_3 a1_0 a1_1 l1_2 a1_3 t495 t496 t497 t500 t505 t506 t507 t510)) = some r := H
              have A55 := Aside0.mk A550
              clear A550
              by_cases c56 : t526 = true
              focus
                subst c56
                have H1 : ((rialtoref08_SameEntries.f k y502 l1_2).bind fun t527 => (rialtolaw08_EntriesAccept.j0 k y502 (!t527) a0_0 a0_1 l0_2 a0_3 a1_0 a1_1 l1_2 a1_3 t495 t496 t497 t500 t505 t506 t507 t510)) = some r := by rw [if_pos rfl] at H; exact H
                clear H
                have H := H1
                clear H1
                replace H := Option.bind_eq_some_iff.mp H
                obtain ⟨t527, A570, H⟩ := H
                replace H : (rialtolaw08_EntriesAccept.j0 k y502 (!t527) a0_0 a0_1 l0_2 a0_3 a1_0 a1_1 l1_2 a1_3 t495 t496 t497 t500 t505 t506 t507 t510) = some r := H
                have A57 := Aside0.mk A570
                clear A570
                have H' := Aside0.mk H
                clear H
              rotate_left 1
              focus
                replace c56 := Bool.eq_false_iff.mpr c56
                subst c56
                have H1 : (rialtolaw08_EntriesAccept.j0 k y502 true a0_0 a0_1 l0_2 a0_3 a1_0 a1_1 l1_2 a1_3 t495 t496 t497 t500 t505 t506 t507 t510) = some r := by rw [if_neg (show ¬ (false = true) by decide)] at H; exact H
                clear H
                have H := H1
                clear H1
                have H' := Aside0.mk H
                clear H
              rotate_left 1
            rotate_left 2
            focus
              rw [if_neg c54] at H
              have c54b0 : (t513 == t523) = false := beq_eq_false_iff_ne.mpr c54
              have c54b1 : (t513 != t523) = true := bne_iff_ne.mpr c54
              have H' := Aside0.mk H
              clear H
            rotate_left 1
            all_goals
              have hnbyb514_493 := NB514_493.out
              have hncyb493_514 := NB493_514.out
              have hnbyb514_494 := NB514_494.out
              have hncyb494_514 := NB494_514.out
              have hnbyb514_501 := NB514_501.out
              have hncyb501_514 := NB501_514.out
              have hnbyb514_524 := NB514_524.out
              have hncyb524_514 := NB524_514.out
              have hczyb514_0 : w33.cell? ⟨gb514, 0, none⟩ = some (.int .i64 t505) := (blk_cell BK514.out 0).trans rfl
              have hczyb514_1 : w33.cell? ⟨gb514, 1, none⟩ = some (.int .i64 t506) := (blk_cell BK514.out 1).trans rfl
              have hczyb514_2 : w33.cell? ⟨gb514, 2, none⟩ = some (.slice Ao29 t507.length co29) := (blk_cell BK514.out 2).trans rfl
              have hczyb514_3 : w33.cell? ⟨gb514, 3, none⟩ = some (.int .i64 t510) := (blk_cell BK514.out 3).trans rfl
              have hfzyb514_0 := blk_frozen BK514.out 0
              have hfzyb514_1 := blk_frozen BK514.out 1
              have hfzyb514_2 := blk_frozen BK514.out 2
              have hfzyb514_3 := blk_frozen BK514.out 3
              have hnbyb524_493 := NB524_493.out
              have hncyb493_524 := NB493_524.out
              have hnbyb524_494 := NB524_494.out
              have hncyb494_524 := NB494_524.out
              have hnbyb524_501 := NB524_501.out
              have hncyb501_524 := NB501_524.out
              have hczyb524_0 : w33.cell? ⟨gb524, 0, none⟩ = some (.int .i64 0) := (blk_cell BK524.out 0).trans rfl
              have hczyb524_1 : w33.cell? ⟨gb524, 1, none⟩ = some (.int .i64 0) := (blk_cell BK524.out 1).trans rfl
              have hczyb524_2 : w33.cell? ⟨gb524, 2, none⟩ = some (.slice none 0 0) := (blk_cell BK524.out 2).trans rfl
              have hczyb524_3 : w33.cell? ⟨gb524, 3, none⟩ = some (.int .i64 0) := (blk_cell BK524.out 3).trans rfl
              have hfzyb524_0 := blk_frozen BK524.out 0
              have hfzyb524_1 := blk_frozen BK524.out 1
              have hfzyb524_2 := blk_frozen BK524.out 2
              have hfzyb524_3 := blk_frozen BK524.out 3
              go_wp2_with (first | ((with_reducible refine gate_callee (f := 16) rfl ?_); refine goesL_ (some 48) rfl rfl Try.func16 (by kernel_rfl) rfl #[.agg #[.int .i64 t505, .int .i64 t506, .slice Ao29 t507.length co29, .int .i64 t510], .agg #[.int .i64 t515, .int .i64 t516, .slice Ao39 t517.length co39, .int .i64 t520]] rfl (by (try simp only [List.map_toArray, List.map_cons, List.map_nil]); first | done | rfl | (simp only [List.length_drop, List.length_take]; rfl)) ?_; (with_reducible refine (rialtoref08_Same.calls k t505 t506 _ _ t507 t510 t515 t516 _ _ t517 t520 _ _ ?side1 ?side2 ?side3 ?side4 A40.out).mono ?_); (case side1 => refine (Kd.R_reads' (e := 33) (base := w.heap.size) (ok := fun k_ => (((True ∧ some k_ ≠ (.slice Ao17 t497.length co17 : Value).ownBlock) ∧ some k_ ≠ (.slice Ao22 y502.length co22 : Value).ownBlock) ∧ some k_ ≠ (.slice Ao39 t517.length co39 : Value).ownBlock)) (n := t507.length) (c := co29) ?_).2.2; exact (by (with_reducible repeat (first | apply Kd.R_alloc | apply Kd.R_drewN | apply Kd.R_drew)); exact (Kd.R_mono (Kd.R_far (p := ⟨gb524, 3, none⟩) (Kd.R_far (p := ⟨gb524, 2, none⟩) (Kd.R_far (p := ⟨gb524, 1, none⟩) (Kd.R_far (p := ⟨gb524, 0, none⟩) (Kd.R_types HO509.out BK524.out (by decide)) (fun _ hk => hk.2) (.int .i64 t515)) (fun _ hk => hk.2) (.int .i64 t516)) (fun _ hk => hk.2) (.slice Ao39 t517.length co39)) (fun _ hk => hk.2) (.int .i64 t520)) (fun _ h_ => h_.1)))); (case side2 => exact (Kd.R_reads' HO509.out).2.1); (case side3 => refine (Kd.R_reads' (e := 33) (base := w.heap.size) (ok := fun k_ => (((True ∧ some k_ ≠ (.slice Ao17 t497.length co17 : Value).ownBlock) ∧ some k_ ≠ (.slice Ao22 y502.length co22 : Value).ownBlock) ∧ some k_ ≠ (.slice Ao29 t507.length co29 : Value).ownBlock)) (n := t517.length) (c := co39) ?_).2.2; exact (by (with_reducible repeat (first | apply Kd.R_alloc | apply Kd.R_drewN | apply Kd.R_drew)); exact (Kd.R_mono (Kd.R_far (p := ⟨gb524, 3, none⟩) (Kd.R_far (p := ⟨gb524, 2, none⟩) (Kd.R_far (p := ⟨gb524, 1, none⟩) (Kd.R_far (p := ⟨gb524, 0, none⟩) (Kd.R_types HO519.out BK524.out (by decide)) (fun _ hk => hk.2) (.int .i64 t515)) (fun _ hk => hk.2) (.int .i64 t516)) (fun _ hk => hk.2) (.slice Ao39 t517.length co39)) (fun _ hk => hk.2) (.int .i64 t520)) (fun _ h_ => h_.1)))); (case side4 => exact (Kd.R_reads' HO519.out).2.1); rintro e wx48i0 ⟨rfl, hb⟩; refine ⟨_, rfl, ?_⟩; have n0_ := Aside0.mk (Kd.R_below (by (with_reducible repeat (first | apply Kd.R_alloc | apply Kd.R_drewN | apply Kd.R_drew)); exact (Kd.R_mono (Kd.R_far (p := ⟨gb524, 3, none⟩) (Kd.R_far (p := ⟨gb524, 2, none⟩) (Kd.R_far (p := ⟨gb524, 1, none⟩) (Kd.R_far (p := ⟨gb524, 0, none⟩) (Kd.R_types HO499.out BK524.out (by decide)) (fun _ hk => hk.2) (.int .i64 t515)) (fun _ hk => hk.2) (.int .i64 t516)) (fun _ hk => hk.2) (.slice Ao39 t517.length co39)) (fun _ hk => hk.2) (.int .i64 t520)) (fun _ h_ => h_.1))) hb); have n1_ := Aside0.mk (Kd.R_below (by (with_reducible repeat (first | apply Kd.R_alloc | apply Kd.R_drewN | apply Kd.R_drew)); exact (Kd.R_mono (Kd.R_far (p := ⟨gb524, 3, none⟩) (Kd.R_far (p := ⟨gb524, 2, none⟩) (Kd.R_far (p := ⟨gb524, 1, none⟩) (Kd.R_far (p := ⟨gb524, 0, none⟩) (Kd.R_types HO504.out BK524.out (by decide)) (fun _ hk => hk.2) (.int .i64 t515)) (fun _ hk => hk.2) (.int .i64 t516)) (fun _ hk => hk.2) (.slice Ao39 t517.length co39)) (fun _ hk => hk.2) (.int .i64 t520)) (fun _ h_ => h_.1))) hb); have n2_ := Aside0.mk (Kd.R_below (by (with_reducible repeat (first | apply Kd.R_alloc | apply Kd.R_drewN | apply Kd.R_drew)); exact (Kd.R_mono (Kd.R_far (p := ⟨gb524, 3, none⟩) (Kd.R_far (p := ⟨gb524, 2, none⟩) (Kd.R_far (p := ⟨gb524, 1, none⟩) (Kd.R_far (p := ⟨gb524, 0, none⟩) (Kd.R_types HO509.out BK524.out (by decide)) (fun _ hk => hk.2) (.int .i64 t515)) (fun _ hk => hk.2) (.int .i64 t516)) (fun _ hk => hk.2) (.slice Ao39 t517.length co39)) (fun _ hk => hk.2) (.int .i64 t520)) (fun _ h_ => h_.1))) hb); have n3_ := Aside0.mk (Kd.R_below (by (with_reducible repeat (first | apply Kd.R_alloc | apply Kd.R_drewN | apply Kd.R_drew)); exact (Kd.R_mono (Kd.R_far (p := ⟨gb524, 3, none⟩) (Kd.R_far (p := ⟨gb524, 2, none⟩) (Kd.R_far (p := ⟨gb524, 1, none⟩) (Kd.R_far (p := ⟨gb524, 0, none⟩) (Kd.R_types HO519.out BK524.out (by decide)) (fun _ hk => hk.2) (.int .i64 t515)) (fun _ hk => hk.2) (.int .i64 t516)) (fun _ hk => hk.2) (.slice Ao39 t517.length co39)) (fun _ hk => hk.2) (.int .i64 t520)) (fun _ h_ => h_.1))) hb); have n4_ := Aside0.mk (blk_below (g := gb493) (o := .cells #[.int .i64 a0_0, .int .i64 a0_1, .slice A0_2 l0_2.length c0_2, .int .i64 a0_3] 26 (0, 0)) (by (with_reducible repeat (first | refine blk_drewN ?_ _ | refine blk_drew ?_ | refine blk_alloc ?_ _)); refine blk_far ?_ NB493_524.out _; (with_reducible repeat (first | refine blk_drewN ?_ _ | refine blk_drew ?_ | refine blk_alloc ?_ _)); refine blk_far ?_ NB493_524.out _; (with_reducible repeat (first | refine blk_drewN ?_ _ | refine blk_drew ?_ | refine blk_alloc ?_ _)); refine blk_far ?_ NB493_524.out _; (with_reducible repeat (first | refine blk_drewN ?_ _ | refine blk_drew ?_ | refine blk_alloc ?_ _)); refine blk_far ?_ NB493_524.out _; (with_reducible repeat (first | refine blk_drewN ?_ _ | refine blk_drew ?_ | refine blk_alloc ?_ _)); exact BK493.out) hb); have n5_ := Aside0.mk (blk_below (g := gb494) (o := .cells #[.int .i64 a1_0, .int .i64 a1_1, .slice A1_2 l1_2.length c1_2, .int .i64 a1_3] 41 (0, 0)) (by (with_reducible repeat (first | refine blk_drewN ?_ _ | refine blk_drew ?_ | refine blk_alloc ?_ _)); refine blk_far ?_ NB494_524.out _; (with_reducible repeat (first | refine blk_drewN ?_ _ | refine blk_drew ?_ | refine blk_alloc ?_ _)); refine blk_far ?_ NB494_524.out _; (with_reducible repeat (first | refine blk_drewN ?_ _ | refine blk_drew ?_ | refine blk_alloc ?_ _)); refine blk_far ?_ NB494_524.out _; (with_reducible repeat (first | refine blk_drewN ?_ _ | refine blk_drew ?_ | refine blk_alloc ?_ _)); refine blk_far ?_ NB494_524.out _; (with_reducible repeat (first | refine blk_drewN ?_ _ | refine blk_drew ?_ | refine blk_alloc ?_ _)); exact BK494.out) hb); have n6_ := Aside0.mk (blk_below (g := gb501) (o := .cells #[.int .i64 t495, .int .i64 t496, .slice Ao17 t497.length co17, .int .i64 t500] 26 (0, 0)) (by (with_reducible repeat (first | refine blk_drewN ?_ _ | refine blk_drew ?_ | refine blk_alloc ?_ _)); refine blk_far ?_ NB501_524.out _; (with_reducible repeat (first | refine blk_drewN ?_ _ | refine blk_drew ?_ | refine blk_alloc ?_ _)); refine blk_far ?_ NB501_524.out _; (with_reducible repeat (first | refine blk_drewN ?_ _ | refine blk_drew ?_ | refine blk_alloc ?_ _)); refine blk_far ?_ NB501_524.out _; (with_reducible repeat (first | refine blk_drewN ?_ _ | refine blk_drew ?_ | refine blk_alloc ?_ _)); refine blk_far ?_ NB501_524.out _; (with_reducible repeat (first | refine blk_drewN ?_ _ | refine blk_drew ?_ | refine blk_alloc ?_ _)); exact BK501.out) hb); have n7_ := Aside0.mk (blk_below (g := gb514) (o := .cells #[.int .i64 t505, .int .i64 t506, .slice Ao29 t507.length co29, .int .i64 t510] 26 (0, 0)) (by (with_reducible repeat (first | refine blk_drewN ?_ _ | refine blk_drew ?_ | refine blk_alloc ?_ _)); refine blk_far ?_ NB514_524.out _; (with_reducible repeat (first | refine blk_drewN ?_ _ | refine blk_drew ?_ | refine blk_alloc ?_ _)); refine blk_far ?_ NB514_524.out _; (with_reducible repeat (first | refine blk_drewN ?_ _ | refine blk_drew ?_ | refine blk_alloc ?_ _)); refine blk_far ?_ NB514_524.out _; (with_reducible repeat (first | refine blk_drewN ?_ _ | refine blk_drew ?_ | refine blk_alloc ?_ _)); refine blk_far ?_ NB514_524.out _; (with_reducible repeat (first | refine blk_drewN ?_ _ | refine blk_drew ?_ | refine blk_alloc ?_ _)); exact BK514.out) hb); have n8_ := Aside0.mk (blk_below (g := gb524) (o := .cells #[.int .i64 t515, .int .i64 t516, .slice Ao39 t517.length co39, .int .i64 t520] 26 (0, 0)) (by (with_reducible repeat (first | refine blk_drewN ?_ _ | refine blk_drew ?_ | refine blk_alloc ?_ _)); refine blk_put (cs := #[.int .i64 t515, .int .i64 t516, .slice Ao39 t517.length co39, .int .i64 0]) ?_ 3 _ rfl; (with_reducible repeat (first | refine blk_drewN ?_ _ | refine blk_drew ?_ | refine blk_alloc ?_ _)); refine blk_put (cs := #[.int .i64 t515, .int .i64 t516, .slice none 0 0, .int .i64 0]) ?_ 2 _ rfl; (with_reducible repeat (first | refine blk_drewN ?_ _ | refine blk_drew ?_ | refine blk_alloc ?_ _)); refine blk_put (cs := #[.int .i64 t515, .int .i64 0, .slice none 0 0, .int .i64 0]) ?_ 1 _ rfl; (with_reducible repeat (first | refine blk_drewN ?_ _ | refine blk_drew ?_ | refine blk_alloc ?_ _)); refine blk_put (cs := #[.int .i64 0, .int .i64 0, .slice none 0 0, .int .i64 0]) ?_ 0 _ rfl; (with_reducible repeat (first | refine blk_drewN ?_ _ | refine blk_drew ?_ | refine blk_alloc ?_ _)); exact BK524.out) hb); have n9_ := Aside0.mk (below_step (by repeat (first | (with_reducible first | exact HB.out | apply below_alloc | apply pw_below_drewN | apply below_drew1 | refine below_set ?_ GE493.out | refine below_set ?_ GE494.out | refine below_set ?_ GE501.out | refine below_set ?_ GE514.out | refine below_set ?_ GE524.out) | exact HB.out)) hb); clear HO499; clear HO504; clear HO509; clear HO519; clear BK493; clear BK494; clear BK501; clear BK514; clear BK524; clear HB; have HO499 := n0_; have HO504 := n1_; have HO509 := n2_; have HO519 := n3_; have BK493 := n4_; have BK494 := n5_; have BK501 := n6_; have BK514 := n7_; have BK524 := n8_; have HB := n9_; clear n0_ n1_ n2_ n3_ n4_ n5_ n6_ n7_ n8_ n9_; (try clear hb); (try clear hb2); (try clear hk); (try clear hi); (try have hnbx48b501_493 := NB501_493.out); (try have hncx48b493_501 := NB493_501.out); (try have hnbx48b501_494 := NB501_494.out); (try have hncx48b494_501 := NB494_501.out); (try have hczx48b501_0 : wx48i0.cell? ⟨gb501, 0, none⟩ = some (.int .i64 t495) := (blk_cell BK501.out 0).trans rfl); (try have hczx48b501_1 : wx48i0.cell? ⟨gb501, 1, none⟩ = some (.int .i64 t496) := (blk_cell BK501.out 1).trans rfl); (try have hczx48b501_2 : wx48i0.cell? ⟨gb501, 2, none⟩ = some (.slice Ao17 t497.length co17) := (blk_cell BK501.out 2).trans rfl); (try have hczx48b501_3 : wx48i0.cell? ⟨gb501, 3, none⟩ = some (.int .i64 t500) := (blk_cell BK501.out 3).trans rfl); (try have hfzx48b501_0 := blk_frozen BK501.out 0); (try have hfzx48b501_1 := blk_frozen BK501.out 1); (try have hfzx48b501_2 := blk_frozen BK501.out 2); (try have hfzx48b501_3 := blk_frozen BK501.out 3); (try have hnbx48b493_494 := NB493_494.out); (try have hncx48b494_493 := NB494_493.out); (try have hczx48b493_0 : wx48i0.cell? ⟨gb493, 0, none⟩ = some (.int .i64 a0_0) := (blk_cell BK493.out 0).trans rfl); (try have hczx48b493_1 : wx48i0.cell? ⟨gb493, 1, none⟩ = some (.int .i64 a0_1) := (blk_cell BK493.out 1).trans rfl); (try have hczx48b493_2 : wx48i0.cell? ⟨gb493, 2, none⟩ = some (.slice A0_2 l0_2.length c0_2) := (blk_cell BK493.out 2).trans rfl); (try have hczx48b493_3 : wx48i0.cell? ⟨gb493, 3, none⟩ = some (.int .i64 a0_3) := (blk_cell BK493.out 3).trans rfl); (try have hfzx48b493_0 := blk_frozen BK493.out 0); (try have hfzx48b493_1 := blk_frozen BK493.out 1); (try have hfzx48b493_2 := blk_frozen BK493.out 2); (try have hfzx48b493_3 := blk_frozen BK493.out 3)) | (go_at_call 16; (with_reducible refine (rialtoref08_Same.calls k t495 t496 _ _ t497 t500 a0_0 a0_1 _ _ l0_2 a0_3 _ _ ?side1 ?side2 ?side3 ?side4 A55.out).mono ?_); (case side1 => repeat (first | exact (Kd.R_reads' HO499.out).2.2 | (with_reducible refine Kd.C_alloc ?_ _) | (with_reducible refine Kd.C_drewN ?_ _) | (with_reducible refine Kd.C_drew ?_))); (case side2 => exact (Kd.R_reads' HO499.out).2.1); (case side3 => repeat (first | exact (Kd.C_below HR0_2.out HB.out) | (with_reducible refine Kd.C_alloc ?_ _) | (with_reducible refine Kd.C_drewN ?_ _) | (with_reducible refine Kd.C_drew ?_))); (case side4 => exact HC0_2.out); rintro e wyi0 ⟨rfl, hb⟩; have n0_ := Aside0.mk (Kd.R_below (by (with_reducible repeat (first | apply Kd.R_alloc | apply Kd.R_drewN | apply Kd.R_drew)); exact HO499.out) hb); have n1_ := Aside0.mk (Kd.R_below (by (with_reducible repeat (first | apply Kd.R_alloc | apply Kd.R_drewN | apply Kd.R_drew)); exact HO504.out) hb); have n2_ := Aside0.mk (Kd.R_below (by (with_reducible repeat (first | apply Kd.R_alloc | apply Kd.R_drewN | apply Kd.R_drew)); exact HO509.out) hb); have n3_ := Aside0.mk (Kd.R_below (by (with_reducible repeat (first | apply Kd.R_alloc | apply Kd.R_drewN | apply Kd.R_drew)); exact HO519.out) hb); have n4_ := Aside0.mk (blk_below (g := gb493) (o := .cells #[.int .i64 a0_0, .int .i64 a0_1, .slice A0_2 l0_2.length c0_2, .int .i64 a0_3] 26 (0, 0)) (by (with_reducible repeat (first | refine blk_drewN ?_ _ | refine blk_drew ?_ | refine blk_alloc ?_ _)); exact BK493.out) hb); have n5_ := Aside0.mk (blk_below (g := gb494) (o := .cells #[.int .i64 a1_0, .int .i64 a1_1, .slice A1_2 l1_2.length c1_2, .int .i64 a1_3] 41 (0, 0)) (by (with_reducible repeat (first | refine blk_drewN ?_ _ | refine blk_drew ?_ | refine blk_alloc ?_ _)); exact BK494.out) hb); have n6_ := Aside0.mk (blk_below (g := gb501) (o := .cells #[.int .i64 t495, .int .i64 t496, .slice Ao17 t497.length co17, .int .i64 t500] 26 (0, 0)) (by (with_reducible repeat (first | refine blk_drewN ?_ _ | refine blk_drew ?_ | refine blk_alloc ?_ _)); exact BK501.out) hb); have n7_ := Aside0.mk (blk_below (g := gb514) (o := .cells #[.int .i64 t505, .int .i64 t506, .slice Ao29 t507.length co29, .int .i64 t510] 26 (0, 0)) (by (with_reducible repeat (first | refine blk_drewN ?_ _ | refine blk_drew ?_ | refine blk_alloc ?_ _)); exact BK514.out) hb); have n8_ := Aside0.mk (blk_below (g := gb524) (o := .cells #[.int .i64 t515, .int .i64 t516, .slice Ao39 t517.length co39, .int .i64 t520] 26 (0, 0)) (by (with_reducible repeat (first | refine blk_drewN ?_ _ | refine blk_drew ?_ | refine blk_alloc ?_ _)); exact BK524.out) hb); have n9_ := Aside0.mk (below_step (by repeat (first | (with_reducible first | exact HB.out | apply below_alloc | apply pw_below_drewN | apply below_drew1 | refine below_set ?_ GE493.out | refine below_set ?_ GE494.out | refine below_set ?_ GE501.out | refine below_set ?_ GE514.out | refine below_set ?_ GE524.out) | exact HB.out)) hb); clear HO499; clear HO504; clear HO509; clear HO519; clear BK493; clear BK494; clear BK501; clear BK514; clear BK524; clear HB; have HO499 := n0_; have HO504 := n1_; have HO509 := n2_; have HO519 := n3_; have BK493 := n4_; have BK494 := n5_; have BK501 := n6_; have BK514 := n7_; have BK524 := n8_; have HB := n9_; clear n0_ n1_ n2_ n3_ n4_ n5_ n6_ n7_ n8_ n9_; (try clear hb); (try clear hb2); (try clear hk); (try clear hi); have hczyb494_0 : wyi0.cell? ⟨gb494, 0, none⟩ = some (.int .i64 a1_0) := (blk_cell BK494.out 0).trans rfl; have hczyb494_1 : wyi0.cell? ⟨gb494, 1, none⟩ = some (.int .i64 a1_1) := (blk_cell BK494.out 1).trans rfl; have hczyb494_2 : wyi0.cell? ⟨gb494, 2, none⟩ = some (.slice A1_2 l1_2.length c1_2) := (blk_cell BK494.out 2).trans rfl; have hczyb494_3 : wyi0.cell? ⟨gb494, 3, none⟩ = some (.int .i64 a1_3) := (blk_cell BK494.out 3).trans rfl; have hfzyb494_0 := blk_frozen BK494.out 0; have hfzyb494_1 := blk_frozen BK494.out 1; have hfzyb494_2 := blk_frozen BK494.out 2; have hfzyb494_3 := blk_frozen BK494.out 3) | (go_at_call 22; (with_reducible refine (rialtoref08_SameEntries.calls k _ _ y502 _ _ l1_2 t527 _ ?side1 ?side2 ?side3 ?side4 A57.out).mono ?_); (case side1 => repeat (first | exact (Kd.R_reads' HO504.out).2.2 | (with_reducible refine Kd.C_alloc ?_ _) | (with_reducible refine Kd.C_drewN ?_ _) | (with_reducible refine Kd.C_drew ?_))); (case side2 => exact (Kd.R_reads' HO504.out).2.1); (case side3 => repeat (first | exact (Kd.C_below HR1_2.out HB.out) | (with_reducible refine Kd.C_alloc ?_ _) | (with_reducible refine Kd.C_drewN ?_ _) | (with_reducible refine Kd.C_drew ?_))); (case side4 => exact HC1_2.out); rintro e w' ⟨rfl, ⟨nd, rfl⟩⟩) | (go_at_call 16; (with_reducible refine (rialtoref08_Same.calls k t495 t496 _ _ t497 t500 a0_0 a0_1 _ _ l0_2 a0_3 _ _ ?side1 ?side2 ?side3 ?side4 A55.out).mono ?_); (case side1 => repeat (first | exact (Kd.R_reads' HO499.out).2.2 | (with_reducible refine Kd.C_alloc ?_ _) | (with_reducible refine Kd.C_drewN ?_ _) | (with_reducible refine Kd.C_drew ?_))); (case side2 => exact (Kd.R_reads' HO499.out).2.1); (case side3 => repeat (first | exact (Kd.C_below HR0_2.out HB.out) | (with_reducible refine Kd.C_alloc ?_ _) | (with_reducible refine Kd.C_drewN ?_ _) | (with_reducible refine Kd.C_drew ?_))); (case side4 => exact HC0_2.out); rintro e wyi0 ⟨rfl, hb⟩; have n0_ := Aside0.mk (Kd.R_below (by (with_reducible repeat (first | apply Kd.R_alloc | apply Kd.R_drewN | apply Kd.R_drew)); exact HO499.out) hb); have n1_ := Aside0.mk (Kd.R_below (by (with_reducible repeat (first | apply Kd.R_alloc | apply Kd.R_drewN | apply Kd.R_drew)); exact HO504.out) hb); have n2_ := Aside0.mk (Kd.R_below (by (with_reducible repeat (first | apply Kd.R_alloc | apply Kd.R_drewN | apply Kd.R_drew)); exact HO509.out) hb); have n3_ := Aside0.mk (Kd.R_below (by (with_reducible repeat (first | apply Kd.R_alloc | apply Kd.R_drewN | apply Kd.R_drew)); exact HO519.out) hb); have n4_ := Aside0.mk (blk_below (g := gb493) (o := .cells #[.int .i64 a0_0, .int .i64 a0_1, .slice A0_2 l0_2.length c0_2, .int .i64 a0_3] 26 (0, 0)) (by (with_reducible repeat (first | refine blk_drewN ?_ _ | refine blk_drew ?_ | refine blk_alloc ?_ _)); exact BK493.out) hb); have n5_ := Aside0.mk (blk_below (g := gb494) (o := .cells #[.int .i64 a1_0, .int .i64 a1_1, .slice A1_2 l1_2.length c1_2, .int .i64 a1_3] 41 (0, 0)) (by (with_reducible repeat (first | refine blk_drewN ?_ _ | refine blk_drew ?_ | refine blk_alloc ?_ _)); exact BK494.out) hb); have n6_ := Aside0.mk (blk_below (g := gb501) (o := .cells #[.int .i64 t495, .int .i64 t496, .slice Ao17 t497.length co17, .int .i64 t500] 26 (0, 0)) (by (with_reducible repeat (first | refine blk_drewN ?_ _ | refine blk_drew ?_ | refine blk_alloc ?_ _)); exact BK501.out) hb); have n7_ := Aside0.mk (blk_below (g := gb514) (o := .cells #[.int .i64 t505, .int .i64 t506, .slice Ao29 t507.length co29, .int .i64 t510] 26 (0, 0)) (by (with_reducible repeat (first | refine blk_drewN ?_ _ | refine blk_drew ?_ | refine blk_alloc ?_ _)); exact BK514.out) hb); have n8_ := Aside0.mk (blk_below (g := gb524) (o := .cells #[.int .i64 t515, .int .i64 t516, .slice Ao39 t517.length co39, .int .i64 t520] 26 (0, 0)) (by (with_reducible repeat (first | refine blk_drewN ?_ _ | refine blk_drew ?_ | refine blk_alloc ?_ _)); exact BK524.out) hb); have n9_ := Aside0.mk (below_step (by repeat (first | (with_reducible first | exact HB.out | apply below_alloc | apply pw_below_drewN | apply below_drew1 | refine below_set ?_ GE493.out | refine below_set ?_ GE494.out | refine below_set ?_ GE501.out | refine below_set ?_ GE514.out | refine below_set ?_ GE524.out) | exact HB.out)) hb); clear HO499; clear HO504; clear HO509; clear HO519; clear BK493; clear BK494; clear BK501; clear BK514; clear BK524; clear HB; have HO499 := n0_; have HO504 := n1_; have HO509 := n2_; have HO519 := n3_; have BK493 := n4_; have BK494 := n5_; have BK501 := n6_; have BK514 := n7_; have BK524 := n8_; have HB := n9_; clear n0_ n1_ n2_ n3_ n4_ n5_ n6_ n7_ n8_ n9_; (try clear hb); (try clear hb2); (try clear hk); (try clear hi)))
              go_meet
              case rel => (first | exact ⟨_, (!t527), (by first | rfl | (simp; done) | (simp [*]; done)), H', ⟨by first | omega | exact Nat.le_refl _⟩, ⟨by (with_reducible repeat (first | apply Kd.R_alloc | apply Kd.R_drewN | apply Kd.R_drew)); exact Kd.R_mono HO504.out (fun _ hk => ⟨hk.1.1, ⟨hk.1.2, hk.2⟩⟩)⟩, ⟨by (with_reducible repeat (first | apply Kd.R_alloc | apply Kd.R_drewN | apply Kd.R_drew)); exact Kd.R_mono HO499.out (fun _ hk => ⟨hk.1.1.2, ⟨hk.1.2, hk.2⟩⟩)⟩, ⟨by (with_reducible repeat (first | apply Kd.R_alloc | apply Kd.R_drewN | apply Kd.R_drew)); exact Kd.R_mono HO509.out (fun _ hk => ⟨hk.1.2, ⟨hk.1.1.2, hk.2⟩⟩)⟩, ⟨by (with_reducible repeat (first | apply Kd.R_alloc | apply Kd.R_drewN | apply Kd.R_drew)); exact Kd.R_mono HO519.out (fun _ hk => ⟨hk.1.2, ⟨hk.1.1.2, hk.2⟩⟩)⟩, ⟨by (with_reducible repeat (first | refine blk_drewN ?_ _ | refine blk_drew ?_ | refine blk_alloc ?_ _)); exact BK493.out⟩, ⟨by (with_reducible repeat (first | refine blk_drewN ?_ _ | refine blk_drew ?_ | refine blk_alloc ?_ _)); exact BK494.out⟩, ⟨by (with_reducible repeat (first | refine blk_drewN ?_ _ | refine blk_drew ?_ | refine blk_alloc ?_ _)); exact BK501.out⟩, ⟨by (with_reducible repeat (first | refine blk_drewN ?_ _ | refine blk_drew ?_ | refine blk_alloc ?_ _)); exact BK514.out⟩, ⟨by (with_reducible repeat (first | refine blk_drewN ?_ _ | refine blk_drew ?_ | refine blk_alloc ?_ _)); exact BK524.out⟩, ⟨by repeat (first | (with_reducible first | exact HB.out | apply below_alloc | apply pw_below_drewN | apply below_drew1 | refine below_set ?_ GE493.out | refine below_set ?_ GE494.out | refine below_set ?_ GE501.out | refine below_set ?_ GE514.out | refine below_set ?_ GE524.out) | exact HB.out)⟩⟩ | exact ⟨_, (true), (by first | rfl | (simp; done) | (simp [*]; done)), H', ⟨by first | omega | exact Nat.le_refl _⟩, ⟨by (with_reducible repeat (first | apply Kd.R_alloc | apply Kd.R_drewN | apply Kd.R_drew)); exact Kd.R_mono HO504.out (fun _ hk => ⟨hk.1.1, ⟨hk.1.2, hk.2⟩⟩)⟩, ⟨by (with_reducible repeat (first | apply Kd.R_alloc | apply Kd.R_drewN | apply Kd.R_drew)); exact Kd.R_mono HO499.out (fun _ hk => ⟨hk.1.1.2, ⟨hk.1.2, hk.2⟩⟩)⟩, ⟨by (with_reducible repeat (first | apply Kd.R_alloc | apply Kd.R_drewN | apply Kd.R_drew)); exact Kd.R_mono HO509.out (fun _ hk => ⟨hk.1.2, ⟨hk.1.1.2, hk.2⟩⟩)⟩, ⟨by (with_reducible repeat (first | apply Kd.R_alloc | apply Kd.R_drewN | apply Kd.R_drew)); exact Kd.R_mono HO519.out (fun _ hk => ⟨hk.1.2, ⟨hk.1.1.2, hk.2⟩⟩)⟩, ⟨by (with_reducible repeat (first | refine blk_drewN ?_ _ | refine blk_drew ?_ | refine blk_alloc ?_ _)); exact BK493.out⟩, ⟨by (with_reducible repeat (first | refine blk_drewN ?_ _ | refine blk_drew ?_ | refine blk_alloc ?_ _)); exact BK494.out⟩, ⟨by (with_reducible repeat (first | refine blk_drewN ?_ _ | refine blk_drew ?_ | refine blk_alloc ?_ _)); exact BK501.out⟩, ⟨by (with_reducible repeat (first | refine blk_drewN ?_ _ | refine blk_drew ?_ | refine blk_alloc ?_ _)); exact BK514.out⟩, ⟨by (with_reducible repeat (first | refine blk_drewN ?_ _ | refine blk_drew ?_ | refine blk_alloc ?_ _)); exact BK524.out⟩, ⟨by repeat (first | (with_reducible first | exact HB.out | apply below_alloc | apply pw_below_drewN | apply below_drew1 | refine below_set ?_ GE493.out | refine below_set ?_ GE494.out | refine below_set ?_ GE501.out | refine below_set ?_ GE514.out | refine below_set ?_ GE524.out) | exact HB.out)⟩⟩)
        · rw [if_neg c42] at H
          have c42b0 : (t511 == t521) = false := beq_eq_false_iff_ne.mpr c42
          have c42b1 : (t511 != t521) = true := bne_iff_ne.mpr c42
          (first | rw [c42b0] | (simp only [i64_w, i32_w]; rw [c42b0]) | skip)
          have H' := Aside0.mk H
          clear H
          have hnb101 := NB514_493.out
          have hnc101 := NB493_514.out
          have hnb102 := NB514_494.out
          have hnc102 := NB494_514.out
          have hnb103 := NB514_501.out
          have hnc103 := NB501_514.out
          have hnb104 := NB514_524.out
          have hnc104 := NB524_514.out
          have hcz105_0 : w33.cell? ⟨gb514, 0, none⟩ = some (.int .i64 t505) := (blk_cell BK514.out 0).trans rfl
          have hcz105_1 : w33.cell? ⟨gb514, 1, none⟩ = some (.int .i64 t506) := (blk_cell BK514.out 1).trans rfl
          have hcz105_2 : w33.cell? ⟨gb514, 2, none⟩ = some (.slice Ao29 t507.length co29) := (blk_cell BK514.out 2).trans rfl
          have hcz105_3 : w33.cell? ⟨gb514, 3, none⟩ = some (.int .i64 t510) := (blk_cell BK514.out 3).trans rfl
          have hfz105_0 := blk_frozen BK514.out 0
          have hfz105_1 := blk_frozen BK514.out 1
          have hfz105_2 := blk_frozen BK514.out 2
          have hfz105_3 := blk_frozen BK514.out 3
          have hnb106 := NB524_493.out
          have hnc106 := NB493_524.out
          have hnb107 := NB524_494.out
          have hnc107 := NB494_524.out
          have hnb108 := NB524_501.out
          have hnc108 := NB501_524.out
          have hcz109_0 : w33.cell? ⟨gb524, 0, none⟩ = some (.int .i64 0) := (blk_cell BK524.out 0).trans rfl
          have hcz109_1 : w33.cell? ⟨gb524, 1, none⟩ = some (.int .i64 0) := (blk_cell BK524.out 1).trans rfl
          have hcz109_2 : w33.cell? ⟨gb524, 2, none⟩ = some (.slice none 0 0) := (blk_cell BK524.out 2).trans rfl
          have hcz109_3 : w33.cell? ⟨gb524, 3, none⟩ = some (.int .i64 0) := (blk_cell BK524.out 3).trans rfl
          have hfz109_0 := blk_frozen BK524.out 0
          have hfz109_1 := blk_frozen BK524.out 1
          have hfz109_2 := blk_frozen BK524.out 2
          have hfz109_3 := blk_frozen BK524.out 3
          go_wp2_with (first | ((with_reducible refine gate_callee (f := 16) rfl ?_); refine goesL_ (some 48) rfl rfl Try.func16 (by kernel_rfl) rfl #[.agg #[.int .i64 t505, .int .i64 t506, .slice Ao29 t507.length co29, .int .i64 t510], .agg #[.int .i64 t515, .int .i64 t516, .slice Ao39 t517.length co39, .int .i64 t520]] rfl (by (try simp only [List.map_toArray, List.map_cons, List.map_nil]); first | done | rfl | (simp only [List.length_drop, List.length_take]; rfl)) ?_; (with_reducible refine (rialtoref08_Same.calls k t505 t506 _ _ t507 t510 t515 t516 _ _ t517 t520 true _ ?side1 ?side2 ?side3 ?side4 A40.out).mono ?_); (case side1 => refine (Kd.R_reads' (e := 33) (base := w.heap.size) (ok := fun k_ => (((True ∧ some k_ ≠ (.slice Ao17 t497.length co17 : Value).ownBlock) ∧ some k_ ≠ (.slice Ao22 y502.length co22 : Value).ownBlock) ∧ some k_ ≠ (.slice Ao39 t517.length co39 : Value).ownBlock)) (n := t507.length) (c := co29) ?_).2.2; exact (by (with_reducible repeat (first | apply Kd.R_alloc | apply Kd.R_drewN | apply Kd.R_drew)); exact (Kd.R_mono (Kd.R_far (p := ⟨gb524, 3, none⟩) (Kd.R_far (p := ⟨gb524, 2, none⟩) (Kd.R_far (p := ⟨gb524, 1, none⟩) (Kd.R_far (p := ⟨gb524, 0, none⟩) (Kd.R_types HO509.out BK524.out (by decide)) (fun _ hk => hk.2) (.int .i64 t515)) (fun _ hk => hk.2) (.int .i64 t516)) (fun _ hk => hk.2) (.slice Ao39 t517.length co39)) (fun _ hk => hk.2) (.int .i64 t520)) (fun _ h_ => h_.1)))); (case side2 => exact (Kd.R_reads' HO509.out).2.1); (case side3 => refine (Kd.R_reads' (e := 33) (base := w.heap.size) (ok := fun k_ => (((True ∧ some k_ ≠ (.slice Ao17 t497.length co17 : Value).ownBlock) ∧ some k_ ≠ (.slice Ao22 y502.length co22 : Value).ownBlock) ∧ some k_ ≠ (.slice Ao29 t507.length co29 : Value).ownBlock)) (n := t517.length) (c := co39) ?_).2.2; exact (by (with_reducible repeat (first | apply Kd.R_alloc | apply Kd.R_drewN | apply Kd.R_drew)); exact (Kd.R_mono (Kd.R_far (p := ⟨gb524, 3, none⟩) (Kd.R_far (p := ⟨gb524, 2, none⟩) (Kd.R_far (p := ⟨gb524, 1, none⟩) (Kd.R_far (p := ⟨gb524, 0, none⟩) (Kd.R_types HO519.out BK524.out (by decide)) (fun _ hk => hk.2) (.int .i64 t515)) (fun _ hk => hk.2) (.int .i64 t516)) (fun _ hk => hk.2) (.slice Ao39 t517.length co39)) (fun _ hk => hk.2) (.int .i64 t520)) (fun _ h_ => h_.1)))); (case side4 => exact (Kd.R_reads' HO519.out).2.1); rintro e w110 ⟨rfl, hb⟩; refine ⟨_, rfl, ?_⟩; have n0_ := Aside0.mk (Kd.R_below (by (with_reducible repeat (first | apply Kd.R_alloc | apply Kd.R_drewN | apply Kd.R_drew)); exact (Kd.R_mono (Kd.R_far (p := ⟨gb524, 3, none⟩) (Kd.R_far (p := ⟨gb524, 2, none⟩) (Kd.R_far (p := ⟨gb524, 1, none⟩) (Kd.R_far (p := ⟨gb524, 0, none⟩) (Kd.R_types HO499.out BK524.out (by decide)) (fun _ hk => hk.2) (.int .i64 t515)) (fun _ hk => hk.2) (.int .i64 t516)) (fun _ hk => hk.2) (.slice Ao39 t517.length co39)) (fun _ hk => hk.2) (.int .i64 t520)) (fun _ h_ => h_.1))) hb); have n1_ := Aside0.mk (Kd.R_below (by (with_reducible repeat (first | apply Kd.R_alloc | apply Kd.R_drewN | apply Kd.R_drew)); exact (Kd.R_mono (Kd.R_far (p := ⟨gb524, 3, none⟩) (Kd.R_far (p := ⟨gb524, 2, none⟩) (Kd.R_far (p := ⟨gb524, 1, none⟩) (Kd.R_far (p := ⟨gb524, 0, none⟩) (Kd.R_types HO504.out BK524.out (by decide)) (fun _ hk => hk.2) (.int .i64 t515)) (fun _ hk => hk.2) (.int .i64 t516)) (fun _ hk => hk.2) (.slice Ao39 t517.length co39)) (fun _ hk => hk.2) (.int .i64 t520)) (fun _ h_ => h_.1))) hb); have n2_ := Aside0.mk (Kd.R_below (by (with_reducible repeat (first | apply Kd.R_alloc | apply Kd.R_drewN | apply Kd.R_drew)); exact (Kd.R_mono (Kd.R_far (p := ⟨gb524, 3, none⟩) (Kd.R_far (p := ⟨gb524, 2, none⟩) (Kd.R_far (p := ⟨gb524, 1, none⟩) (Kd.R_far (p := ⟨gb524, 0, none⟩) (Kd.R_types HO509.out BK524.out (by decide)) (fun _ hk => hk.2) (.int .i64 t515)) (fun _ hk => hk.2) (.int .i64 t516)) (fun _ hk => hk.2) (.slice Ao39 t517.length co39)) (fun _ hk => hk.2) (.int .i64 t520)) (fun _ h_ => h_.1))) hb); have n3_ := Aside0.mk (Kd.R_below (by (with_reducible repeat (first | apply Kd.R_alloc | apply Kd.R_drewN | apply Kd.R_drew)); exact (Kd.R_mono (Kd.R_far (p := ⟨gb524, 3, none⟩) (Kd.R_far (p := ⟨gb524, 2, none⟩) (Kd.R_far (p := ⟨gb524, 1, none⟩) (Kd.R_far (p := ⟨gb524, 0, none⟩) (Kd.R_types HO519.out BK524.out (by decide)) (fun _ hk => hk.2) (.int .i64 t515)) (fun _ hk => hk.2) (.int .i64 t516)) (fun _ hk => hk.2) (.slice Ao39 t517.length co39)) (fun _ hk => hk.2) (.int .i64 t520)) (fun _ h_ => h_.1))) hb); have n4_ := Aside0.mk (blk_below (g := gb493) (o := .cells #[.int .i64 a0_0, .int .i64 a0_1, .slice A0_2 l0_2.length c0_2, .int .i64 a0_3] 26 (0, 0)) (by (with_reducible repeat (first | refine blk_drewN ?_ _ | refine blk_drew ?_ | refine blk_alloc ?_ _)); refine blk_far ?_ NB493_524.out _; (with_reducible repeat (first | refine blk_drewN ?_ _ | refine blk_drew ?_ | refine blk_alloc ?_ _)); refine blk_far ?_ NB493_524.out _; (with_reducible repeat (first | refine blk_drewN ?_ _ | refine blk_drew ?_ | refine blk_alloc ?_ _)); refine blk_far ?_ NB493_524.out _; (with_reducible repeat (first | refine blk_drewN ?_ _ | refine blk_drew ?_ | refine blk_alloc ?_ _)); refine blk_far ?_ NB493_524.out _; (with_reducible repeat (first | refine blk_drewN ?_ _ | refine blk_drew ?_ | refine blk_alloc ?_ _)); exact BK493.out) hb); have n5_ := Aside0.mk (blk_below (g := gb494) (o := .cells #[.int .i64 a1_0, .int .i64 a1_1, .slice A1_2 l1_2.length c1_2, .int .i64 a1_3] 41 (0, 0)) (by (with_reducible repeat (first | refine blk_drewN ?_ _ | refine blk_drew ?_ | refine blk_alloc ?_ _)); refine blk_far ?_ NB494_524.out _; (with_reducible repeat (first | refine blk_drewN ?_ _ | refine blk_drew ?_ | refine blk_alloc ?_ _)); refine blk_far ?_ NB494_524.out _; (with_reducible repeat (first | refine blk_drewN ?_ _ | refine blk_drew ?_ | refine blk_alloc ?_ _)); refine blk_far ?_ NB494_524.out _; (with_reducible repeat (first | refine blk_drewN ?_ _ | refine blk_drew ?_ | refine blk_alloc ?_ _)); refine blk_far ?_ NB494_524.out _; (with_reducible repeat (first | refine blk_drewN ?_ _ | refine blk_drew ?_ | refine blk_alloc ?_ _)); exact BK494.out) hb); have n6_ := Aside0.mk (blk_below (g := gb501) (o := .cells #[.int .i64 t495, .int .i64 t496, .slice Ao17 t497.length co17, .int .i64 t500] 26 (0, 0)) (by (with_reducible repeat (first | refine blk_drewN ?_ _ | refine blk_drew ?_ | refine blk_alloc ?_ _)); refine blk_far ?_ NB501_524.out _; (with_reducible repeat (first | refine blk_drewN ?_ _ | refine blk_drew ?_ | refine blk_alloc ?_ _)); refine blk_far ?_ NB501_524.out _; (with_reducible repeat (first | refine blk_drewN ?_ _ | refine blk_drew ?_ | refine blk_alloc ?_ _)); refine blk_far ?_ NB501_524.out _; (with_reducible repeat (first | refine blk_drewN ?_ _ | refine blk_drew ?_ | refine blk_alloc ?_ _)); refine blk_far ?_ NB501_524.out _; (with_reducible repeat (first | refine blk_drewN ?_ _ | refine blk_drew ?_ | refine blk_alloc ?_ _)); exact BK501.out) hb); have n7_ := Aside0.mk (blk_below (g := gb514) (o := .cells #[.int .i64 t505, .int .i64 t506, .slice Ao29 t507.length co29, .int .i64 t510] 26 (0, 0)) (by (with_reducible repeat (first | refine blk_drewN ?_ _ | refine blk_drew ?_ | refine blk_alloc ?_ _)); refine blk_far ?_ NB514_524.out _; (with_reducible repeat (first | refine blk_drewN ?_ _ | refine blk_drew ?_ | refine blk_alloc ?_ _)); refine blk_far ?_ NB514_524.out _; (with_reducible repeat (first | refine blk_drewN ?_ _ | refine blk_drew ?_ | refine blk_alloc ?_ _)); refine blk_far ?_ NB514_524.out _; (with_reducible repeat (first | refine blk_drewN ?_ _ | refine blk_drew ?_ | refine blk_alloc ?_ _)); refine blk_far ?_ NB514_524.out _; (with_reducible repeat (first | refine blk_drewN ?_ _ | refine blk_drew ?_ | refine blk_alloc ?_ _)); exact BK514.out) hb); have n8_ := Aside0.mk (blk_below (g := gb524) (o := .cells #[.int .i64 t515, .int .i64 t516, .slice Ao39 t517.length co39, .int .i64 t520] 26 (0, 0)) (by (with_reducible repeat (first | refine blk_drewN ?_ _ | refine blk_drew ?_ | refine blk_alloc ?_ _)); refine blk_put (cs := #[.int .i64 t515, .int .i64 t516, .slice Ao39 t517.length co39, .int .i64 0]) ?_ 3 _ rfl; (with_reducible repeat (first | refine blk_drewN ?_ _ | refine blk_drew ?_ | refine blk_alloc ?_ _)); refine blk_put (cs := #[.int .i64 t515, .int .i64 t516, .slice none 0 0, .int .i64 0]) ?_ 2 _ rfl; (with_reducible repeat (first | refine blk_drewN ?_ _ | refine blk_drew ?_ | refine blk_alloc ?_ _)); refine blk_put (cs := #[.int .i64 t515, .int .i64 0, .slice none 0 0, .int .i64 0]) ?_ 1 _ rfl; (with_reducible repeat (first | refine blk_drewN ?_ _ | refine blk_drew ?_ | refine blk_alloc ?_ _)); refine blk_put (cs := #[.int .i64 0, .int .i64 0, .slice none 0 0, .int .i64 0]) ?_ 0 _ rfl; (with_reducible repeat (first | refine blk_drewN ?_ _ | refine blk_drew ?_ | refine blk_alloc ?_ _)); exact BK524.out) hb); have n9_ := Aside0.mk (below_step (by repeat (first | (with_reducible first | exact HB.out | apply below_alloc | apply pw_below_drewN | apply below_drew1 | refine below_set ?_ GE493.out | refine below_set ?_ GE494.out | refine below_set ?_ GE501.out | refine below_set ?_ GE514.out | refine below_set ?_ GE524.out) | exact HB.out)) hb); clear HO499; clear HO504; clear HO509; clear HO519; clear BK493; clear BK494; clear BK501; clear BK514; clear BK524; clear HB; have HO499 := n0_; have HO504 := n1_; have HO509 := n2_; have HO519 := n3_; have BK493 := n4_; have BK494 := n5_; have BK501 := n6_; have BK514 := n7_; have BK524 := n8_; have HB := n9_; clear n0_ n1_ n2_ n3_ n4_ n5_ n6_ n7_ n8_ n9_; (try clear hb); (try clear hb2); (try clear hk); (try clear hi)))
          go_meet
          case rel => exact ⟨_, (true), (by first | rfl | (simp; done) | (simp [*]; done)), H', ⟨by first | omega | exact Nat.le_refl _⟩, ⟨by (with_reducible repeat (first | apply Kd.R_alloc | apply Kd.R_drewN | apply Kd.R_drew)); exact Kd.R_mono HO504.out (fun _ hk => ⟨hk.1.1, ⟨hk.1.2, hk.2⟩⟩)⟩, ⟨by (with_reducible repeat (first | apply Kd.R_alloc | apply Kd.R_drewN | apply Kd.R_drew)); exact Kd.R_mono HO499.out (fun _ hk => ⟨hk.1.1.2, ⟨hk.1.2, hk.2⟩⟩)⟩, ⟨by (with_reducible repeat (first | apply Kd.R_alloc | apply Kd.R_drewN | apply Kd.R_drew)); exact Kd.R_mono HO509.out (fun _ hk => ⟨hk.1.2, ⟨hk.1.1.2, hk.2⟩⟩)⟩, ⟨by (with_reducible repeat (first | apply Kd.R_alloc | apply Kd.R_drewN | apply Kd.R_drew)); exact Kd.R_mono HO519.out (fun _ hk => ⟨hk.1.2, ⟨hk.1.1.2, hk.2⟩⟩)⟩, ⟨by (with_reducible repeat (first | refine blk_drewN ?_ _ | refine blk_drew ?_ | refine blk_alloc ?_ _)); exact BK493.out⟩, ⟨by (with_reducible repeat (first | refine blk_drewN ?_ _ | refine blk_drew ?_ | refine blk_alloc ?_ _)); exact BK494.out⟩, ⟨by (with_reducible repeat (first | refine blk_drewN ?_ _ | refine blk_drew ?_ | refine blk_alloc ?_ _)); exact BK501.out⟩, ⟨by (with_reducible repeat (first | refine blk_drewN ?_ _ | refine blk_drew ?_ | refine blk_alloc ?_ _)); exact BK514.out⟩, ⟨by (with_reducible repeat (first | refine blk_drewN ?_ _ | refine blk_drew ?_ | refine blk_alloc ?_ _)); exact BK524.out⟩, ⟨by repeat (first | (with_reducible first | exact HB.out | apply below_alloc | apply pw_below_drewN | apply below_drew1 | refine below_set ?_ GE493.out | refine below_set ?_ GE494.out | refine below_set ?_ GE501.out | refine below_set ?_ GE514.out | refine below_set ?_ GE524.out) | exact HB.out)⟩⟩
      · replace c41 := Bool.eq_false_iff.mpr c41
        subst c41
        have H1 : (rialtolaw08_EntriesAccept.j0 k y502 true a0_0 a0_1 l0_2 a0_3 a1_0 a1_1 l1_2 a1_3 t495 t496 t497 t500 t505 t506 t507 t510) = some r := by rw [if_neg (show ¬ (false = true) by decide)] at H; exact H
        clear H
        have H := H1
        clear H1
        have H' := Aside0.mk H
        clear H
        have hnb111 := NB514_493.out
        have hnc111 := NB493_514.out
        have hnb112 := NB514_494.out
        have hnc112 := NB494_514.out
        have hnb113 := NB514_501.out
        have hnc113 := NB501_514.out
        have hnb114 := NB514_524.out
        have hnc114 := NB524_514.out
        have hcz115_0 : w33.cell? ⟨gb514, 0, none⟩ = some (.int .i64 t505) := (blk_cell BK514.out 0).trans rfl
        have hcz115_1 : w33.cell? ⟨gb514, 1, none⟩ = some (.int .i64 t506) := (blk_cell BK514.out 1).trans rfl
        have hcz115_2 : w33.cell? ⟨gb514, 2, none⟩ = some (.slice Ao29 t507.length co29) := (blk_cell BK514.out 2).trans rfl
        have hcz115_3 : w33.cell? ⟨gb514, 3, none⟩ = some (.int .i64 t510) := (blk_cell BK514.out 3).trans rfl
        have hfz115_0 := blk_frozen BK514.out 0
        have hfz115_1 := blk_frozen BK514.out 1
        have hfz115_2 := blk_frozen BK514.out 2
        have hfz115_3 := blk_frozen BK514.out 3
        have hnb116 := NB524_493.out
        have hnc116 := NB493_524.out
        have hnb117 := NB524_494.out
        have hnc117 := NB494_524.out
        have hnb118 := NB524_501.out
        have hnc118 := NB501_524.out
        have hcz119_0 : w33.cell? ⟨gb524, 0, none⟩ = some (.int .i64 0) := (blk_cell BK524.out 0).trans rfl
        have hcz119_1 : w33.cell? ⟨gb524, 1, none⟩ = some (.int .i64 0) := (blk_cell BK524.out 1).trans rfl
        have hcz119_2 : w33.cell? ⟨gb524, 2, none⟩ = some (.slice none 0 0) := (blk_cell BK524.out 2).trans rfl
        have hcz119_3 : w33.cell? ⟨gb524, 3, none⟩ = some (.int .i64 0) := (blk_cell BK524.out 3).trans rfl
        have hfz119_0 := blk_frozen BK524.out 0
        have hfz119_1 := blk_frozen BK524.out 1
        have hfz119_2 := blk_frozen BK524.out 2
        have hfz119_3 := blk_frozen BK524.out 3
        go_wp2_with (first | ((with_reducible refine gate_callee (f := 16) rfl ?_); refine goesL_ (some 48) rfl rfl Try.func16 (by kernel_rfl) rfl #[.agg #[.int .i64 t505, .int .i64 t506, .slice Ao29 t507.length co29, .int .i64 t510], .agg #[.int .i64 t515, .int .i64 t516, .slice Ao39 t517.length co39, .int .i64 t520]] rfl (by (try simp only [List.map_toArray, List.map_cons, List.map_nil]); first | done | rfl | (simp only [List.length_drop, List.length_take]; rfl)) ?_; (with_reducible refine (rialtoref08_Same.calls k t505 t506 _ _ t507 t510 t515 t516 _ _ t517 t520 false _ ?side1 ?side2 ?side3 ?side4 A40.out).mono ?_); (case side1 => refine (Kd.R_reads' (e := 33) (base := w.heap.size) (ok := fun k_ => (((True ∧ some k_ ≠ (.slice Ao17 t497.length co17 : Value).ownBlock) ∧ some k_ ≠ (.slice Ao22 y502.length co22 : Value).ownBlock) ∧ some k_ ≠ (.slice Ao39 t517.length co39 : Value).ownBlock)) (n := t507.length) (c := co29) ?_).2.2; exact (by (with_reducible repeat (first | apply Kd.R_alloc | apply Kd.R_drewN | apply Kd.R_drew)); exact (Kd.R_mono (Kd.R_far (p := ⟨gb524, 3, none⟩) (Kd.R_far (p := ⟨gb524, 2, none⟩) (Kd.R_far (p := ⟨gb524, 1, none⟩) (Kd.R_far (p := ⟨gb524, 0, none⟩) (Kd.R_types HO509.out BK524.out (by decide)) (fun _ hk => hk.2) (.int .i64 t515)) (fun _ hk => hk.2) (.int .i64 t516)) (fun _ hk => hk.2) (.slice Ao39 t517.length co39)) (fun _ hk => hk.2) (.int .i64 t520)) (fun _ h_ => h_.1)))); (case side2 => exact (Kd.R_reads' HO509.out).2.1); (case side3 => refine (Kd.R_reads' (e := 33) (base := w.heap.size) (ok := fun k_ => (((True ∧ some k_ ≠ (.slice Ao17 t497.length co17 : Value).ownBlock) ∧ some k_ ≠ (.slice Ao22 y502.length co22 : Value).ownBlock) ∧ some k_ ≠ (.slice Ao29 t507.length co29 : Value).ownBlock)) (n := t517.length) (c := co39) ?_).2.2; exact (by (with_reducible repeat (first | apply Kd.R_alloc | apply Kd.R_drewN | apply Kd.R_drew)); exact (Kd.R_mono (Kd.R_far (p := ⟨gb524, 3, none⟩) (Kd.R_far (p := ⟨gb524, 2, none⟩) (Kd.R_far (p := ⟨gb524, 1, none⟩) (Kd.R_far (p := ⟨gb524, 0, none⟩) (Kd.R_types HO519.out BK524.out (by decide)) (fun _ hk => hk.2) (.int .i64 t515)) (fun _ hk => hk.2) (.int .i64 t516)) (fun _ hk => hk.2) (.slice Ao39 t517.length co39)) (fun _ hk => hk.2) (.int .i64 t520)) (fun _ h_ => h_.1)))); (case side4 => exact (Kd.R_reads' HO519.out).2.1); rintro e w120 ⟨rfl, hb⟩; refine ⟨_, rfl, ?_⟩; have n0_ := Aside0.mk (Kd.R_below (by (with_reducible repeat (first | apply Kd.R_alloc | apply Kd.R_drewN | apply Kd.R_drew)); exact (Kd.R_mono (Kd.R_far (p := ⟨gb524, 3, none⟩) (Kd.R_far (p := ⟨gb524, 2, none⟩) (Kd.R_far (p := ⟨gb524, 1, none⟩) (Kd.R_far (p := ⟨gb524, 0, none⟩) (Kd.R_types HO499.out BK524.out (by decide)) (fun _ hk => hk.2) (.int .i64 t515)) (fun _ hk => hk.2) (.int .i64 t516)) (fun _ hk => hk.2) (.slice Ao39 t517.length co39)) (fun _ hk => hk.2) (.int .i64 t520)) (fun _ h_ => h_.1))) hb); have n1_ := Aside0.mk (Kd.R_below (by (with_reducible repeat (first | apply Kd.R_alloc | apply Kd.R_drewN | apply Kd.R_drew)); exact (Kd.R_mono (Kd.R_far (p := ⟨gb524, 3, none⟩) (Kd.R_far (p := ⟨gb524, 2, none⟩) (Kd.R_far (p := ⟨gb524, 1, none⟩) (Kd.R_far (p := ⟨gb524, 0, none⟩) (Kd.R_types HO504.out BK524.out (by decide)) (fun _ hk => hk.2) (.int .i64 t515)) (fun _ hk => hk.2) (.int .i64 t516)) (fun _ hk => hk.2) (.slice Ao39 t517.length co39)) (fun _ hk => hk.2) (.int .i64 t520)) (fun _ h_ => h_.1))) hb); have n2_ := Aside0.mk (Kd.R_below (by (with_reducible repeat (first | apply Kd.R_alloc | apply Kd.R_drewN | apply Kd.R_drew)); exact (Kd.R_mono (Kd.R_far (p := ⟨gb524, 3, none⟩) (Kd.R_far (p := ⟨gb524, 2, none⟩) (Kd.R_far (p := ⟨gb524, 1, none⟩) (Kd.R_far (p := ⟨gb524, 0, none⟩) (Kd.R_types HO509.out BK524.out (by decide)) (fun _ hk => hk.2) (.int .i64 t515)) (fun _ hk => hk.2) (.int .i64 t516)) (fun _ hk => hk.2) (.slice Ao39 t517.length co39)) (fun _ hk => hk.2) (.int .i64 t520)) (fun _ h_ => h_.1))) hb); have n3_ := Aside0.mk (Kd.R_below (by (with_reducible repeat (first | apply Kd.R_alloc | apply Kd.R_drewN | apply Kd.R_drew)); exact (Kd.R_mono (Kd.R_far (p := ⟨gb524, 3, none⟩) (Kd.R_far (p := ⟨gb524, 2, none⟩) (Kd.R_far (p := ⟨gb524, 1, none⟩) (Kd.R_far (p := ⟨gb524, 0, none⟩) (Kd.R_types HO519.out BK524.out (by decide)) (fun _ hk => hk.2) (.int .i64 t515)) (fun _ hk => hk.2) (.int .i64 t516)) (fun _ hk => hk.2) (.slice Ao39 t517.length co39)) (fun _ hk => hk.2) (.int .i64 t520)) (fun _ h_ => h_.1))) hb); have n4_ := Aside0.mk (blk_below (g := gb493) (o := .cells #[.int .i64 a0_0, .int .i64 a0_1, .slice A0_2 l0_2.length c0_2, .int .i64 a0_3] 26 (0, 0)) (by (with_reducible repeat (first | refine blk_drewN ?_ _ | refine blk_drew ?_ | refine blk_alloc ?_ _)); refine blk_far ?_ NB493_524.out _; (with_reducible repeat (first | refine blk_drewN ?_ _ | refine blk_drew ?_ | refine blk_alloc ?_ _)); refine blk_far ?_ NB493_524.out _; (with_reducible repeat (first | refine blk_drewN ?_ _ | refine blk_drew ?_ | refine blk_alloc ?_ _)); refine blk_far ?_ NB493_524.out _; (with_reducible repeat (first | refine blk_drewN ?_ _ | refine blk_drew ?_ | refine blk_alloc ?_ _)); refine blk_far ?_ NB493_524.out _; (with_reducible repeat (first | refine blk_drewN ?_ _ | refine blk_drew ?_ | refine blk_alloc ?_ _)); exact BK493.out) hb); have n5_ := Aside0.mk (blk_below (g := gb494) (o := .cells #[.int .i64 a1_0, .int .i64 a1_1, .slice A1_2 l1_2.length c1_2, .int .i64 a1_3] 41 (0, 0)) (by (with_reducible repeat (first | refine blk_drewN ?_ _ | refine blk_drew ?_ | refine blk_alloc ?_ _)); refine blk_far ?_ NB494_524.out _; (with_reducible repeat (first | refine blk_drewN ?_ _ | refine blk_drew ?_ | refine blk_alloc ?_ _)); refine blk_far ?_ NB494_524.out _; (with_reducible repeat (first | refine blk_drewN ?_ _ | refine blk_drew ?_ | refine blk_alloc ?_ _)); refine blk_far ?_ NB494_524.out _; (with_reducible repeat (first | refine blk_drewN ?_ _ | refine blk_drew ?_ | refine blk_alloc ?_ _)); refine blk_far ?_ NB494_524.out _; (with_reducible repeat (first | refine blk_drewN ?_ _ | refine blk_drew ?_ | refine blk_alloc ?_ _)); exact BK494.out) hb); have n6_ := Aside0.mk (blk_below (g := gb501) (o := .cells #[.int .i64 t495, .int .i64 t496, .slice Ao17 t497.length co17, .int .i64 t500] 26 (0, 0)) (by (with_reducible repeat (first | refine blk_drewN ?_ _ | refine blk_drew ?_ | refine blk_alloc ?_ _)); refine blk_far ?_ NB501_524.out _; (with_reducible repeat (first | refine blk_drewN ?_ _ | refine blk_drew ?_ | refine blk_alloc ?_ _)); refine blk_far ?_ NB501_524.out _; (with_reducible repeat (first | refine blk_drewN ?_ _ | refine blk_drew ?_ | refine blk_alloc ?_ _)); refine blk_far ?_ NB501_524.out _; (with_reducible repeat (first | refine blk_drewN ?_ _ | refine blk_drew ?_ | refine blk_alloc ?_ _)); refine blk_far ?_ NB501_524.out _; (with_reducible repeat (first | refine blk_drewN ?_ _ | refine blk_drew ?_ | refine blk_alloc ?_ _)); exact BK501.out) hb); have n7_ := Aside0.mk (blk_below (g := gb514) (o := .cells #[.int .i64 t505, .int .i64 t506, .slice Ao29 t507.length co29, .int .i64 t510] 26 (0, 0)) (by (with_reducible repeat (first | refine blk_drewN ?_ _ | refine blk_drew ?_ | refine blk_alloc ?_ _)); refine blk_far ?_ NB514_524.out _; (with_reducible repeat (first | refine blk_drewN ?_ _ | refine blk_drew ?_ | refine blk_alloc ?_ _)); refine blk_far ?_ NB514_524.out _; (with_reducible repeat (first | refine blk_drewN ?_ _ | refine blk_drew ?_ | refine blk_alloc ?_ _)); refine blk_far ?_ NB514_524.out _; (with_reducible repeat (first | refine blk_drewN ?_ _ | refine blk_drew ?_ | refine blk_alloc ?_ _)); refine blk_far ?_ NB514_524.out _; (with_reducible repeat (first | refine blk_drewN ?_ _ | refine blk_drew ?_ | refine blk_alloc ?_ _)); exact BK514.out) hb); have n8_ := Aside0.mk (blk_below (g := gb524) (o := .cells #[.int .i64 t515, .int .i64 t516, .slice Ao39 t517.length co39, .int .i64 t520] 26 (0, 0)) (by (with_reducible repeat (first | refine blk_drewN ?_ _ | refine blk_drew ?_ | refine blk_alloc ?_ _)); refine blk_put (cs := #[.int .i64 t515, .int .i64 t516, .slice Ao39 t517.length co39, .int .i64 0]) ?_ 3 _ rfl; (with_reducible repeat (first | refine blk_drewN ?_ _ | refine blk_drew ?_ | refine blk_alloc ?_ _)); refine blk_put (cs := #[.int .i64 t515, .int .i64 t516, .slice none 0 0, .int .i64 0]) ?_ 2 _ rfl; (with_reducible repeat (first | refine blk_drewN ?_ _ | refine blk_drew ?_ | refine blk_alloc ?_ _)); refine blk_put (cs := #[.int .i64 t515, .int .i64 0, .slice none 0 0, .int .i64 0]) ?_ 1 _ rfl; (with_reducible repeat (first | refine blk_drewN ?_ _ | refine blk_drew ?_ | refine blk_alloc ?_ _)); refine blk_put (cs := #[.int .i64 0, .int .i64 0, .slice none 0 0, .int .i64 0]) ?_ 0 _ rfl; (with_reducible repeat (first | refine blk_drewN ?_ _ | refine blk_drew ?_ | refine blk_alloc ?_ _)); exact BK524.out) hb); have n9_ := Aside0.mk (below_step (by repeat (first | (with_reducible first | exact HB.out | apply below_alloc | apply pw_below_drewN | apply below_drew1 | refine below_set ?_ GE493.out | refine below_set ?_ GE494.out | refine below_set ?_ GE501.out | refine below_set ?_ GE514.out | refine below_set ?_ GE524.out) | exact HB.out)) hb); clear HO499; clear HO504; clear HO509; clear HO519; clear BK493; clear BK494; clear BK501; clear BK514; clear BK524; clear HB; have HO499 := n0_; have HO504 := n1_; have HO509 := n2_; have HO519 := n3_; have BK493 := n4_; have BK494 := n5_; have BK501 := n6_; have BK514 := n7_; have BK524 := n8_; have HB := n9_; clear n0_ n1_ n2_ n3_ n4_ n5_ n6_ n7_ n8_ n9_; (try clear hb); (try clear hb2); (try clear hk); (try clear hi)))
        go_meet
        case rel => exact ⟨_, (true), (by first | rfl | (simp; done) | (simp [*]; done)), H', ⟨by first | omega | exact Nat.le_refl _⟩, ⟨by (with_reducible repeat (first | apply Kd.R_alloc | apply Kd.R_drewN | apply Kd.R_drew)); exact Kd.R_mono HO504.out (fun _ hk => ⟨hk.1.1, ⟨hk.1.2, hk.2⟩⟩)⟩, ⟨by (with_reducible repeat (first | apply Kd.R_alloc | apply Kd.R_drewN | apply Kd.R_drew)); exact Kd.R_mono HO499.out (fun _ hk => ⟨hk.1.1.2, ⟨hk.1.2, hk.2⟩⟩)⟩, ⟨by (with_reducible repeat (first | apply Kd.R_alloc | apply Kd.R_drewN | apply Kd.R_drew)); exact Kd.R_mono HO509.out (fun _ hk => ⟨hk.1.2, ⟨hk.1.1.2, hk.2⟩⟩)⟩, ⟨by (with_reducible repeat (first | apply Kd.R_alloc | apply Kd.R_drewN | apply Kd.R_drew)); exact Kd.R_mono HO519.out (fun _ hk => ⟨hk.1.2, ⟨hk.1.1.2, hk.2⟩⟩)⟩, ⟨by (with_reducible repeat (first | refine blk_drewN ?_ _ | refine blk_drew ?_ | refine blk_alloc ?_ _)); exact BK493.out⟩, ⟨by (with_reducible repeat (first | refine blk_drewN ?_ _ | refine blk_drew ?_ | refine blk_alloc ?_ _)); exact BK494.out⟩, ⟨by (with_reducible repeat (first | refine blk_drewN ?_ _ | refine blk_drew ?_ | refine blk_alloc ?_ _)); exact BK501.out⟩, ⟨by (with_reducible repeat (first | refine blk_drewN ?_ _ | refine blk_drew ?_ | refine blk_alloc ?_ _)); exact BK514.out⟩, ⟨by (with_reducible repeat (first | refine blk_drewN ?_ _ | refine blk_drew ?_ | refine blk_alloc ?_ _)); exact BK524.out⟩, ⟨by repeat (first | (with_reducible first | exact HB.out | apply below_alloc | apply pw_below_drewN | apply below_drew1 | refine below_set ?_ GE493.out | refine below_set ?_ GE494.out | refine below_set ?_ GE501.out | refine below_set ?_ GE514.out | refine below_set ?_ GE524.out) | exact HB.out)⟩⟩
    case rest =>
      clear HC7
      try clear c4
      try clear hcz11_0
      try clear hcz11_1
      try clear hcz11_2
      try clear hcz11_3
      try clear hcz16_0
      try clear hcz16_1
      try clear hcz16_2
      try clear hcz16_3
      try clear hcz18_0
      try clear hcz18_1
      try clear hcz18_2
      try clear hcz18_3
      try clear hcz20_0
      try clear hcz20_1
      try clear hcz20_2
      try clear hcz20_3
      try clear hcz21_0
      try clear hcz21_1
      try clear hcz21_2
      try clear hcz21_3
      try clear hcz28_0
      try clear hcz28_1
      try clear hcz28_2
      try clear hcz28_3
      try clear hcz30_0
      try clear hcz30_1
      try clear hcz30_2
      try clear hcz30_3
      try clear hcz31_0
      try clear hcz31_1
      try clear hcz31_2
      try clear hcz31_3
      try clear hcz38_0
      try clear hcz38_1
      try clear hcz38_2
      try clear hcz38_3
      try clear hfz11_0
      try clear hfz11_1
      try clear hfz11_2
      try clear hfz11_3
      try clear hfz16_0
      try clear hfz16_1
      try clear hfz16_2
      try clear hfz16_3
      try clear hfz18_0
      try clear hfz18_1
      try clear hfz18_2
      try clear hfz18_3
      try clear hfz20_0
      try clear hfz20_1
      try clear hfz20_2
      try clear hfz20_3
      try clear hfz21_0
      try clear hfz21_1
      try clear hfz21_2
      try clear hfz21_3
      try clear hfz28_0
      try clear hfz28_1
      try clear hfz28_2
      try clear hfz28_3
      try clear hfz30_0
      try clear hfz30_1
      try clear hfz30_2
      try clear hfz30_3
      try clear hfz31_0
      try clear hfz31_1
      try clear hfz31_2
      try clear hfz31_3
      try clear hfz38_0
      try clear hfz38_1
      try clear hfz38_2
      try clear hfz38_3
      obtain ⟨kq, x77_6, rfl, HA, HJ6, HO_6, HO_502002, HO_515002, HO_525002, BK493, BK494, BK501, BK514, BK524, HB⟩ := hcut
      cases kq with
      | zero => exact absurd HA.out (by simp [rialtolaw08_EntriesAccept.j0])
      | succ kj6 =>
        have H := HA.out
        clear HA
        simp only [rialtolaw08_EntriesAccept.j0] at H
        by_cases c121 : x77_6 = true
        focus
          subst c121
          have H1 : (some false) = some r := by rw [if_pos rfl] at H; exact H
          clear H
          have H := H1
          clear H1
          obtain rfl := Option.some.inj H
        rotate_left 1
        focus
          replace c121 := Bool.eq_false_iff.mpr c121
          subst c121
          have H1 : ((rialtolaw08_spoil.f kj6 t507).bind fun t528 => ((rialtoref08_Same.f kj6 t495 t496 t497 t500 a0_0 a0_1 l0_2 a0_3).bind fun t529 => (if t529 = true then ((rialtoref08_SameEntries.f kj6 y502 l1_2).bind fun t530 => (if t530 = true then ((rialtolaw08_live.f kj6).bind fun t531 => (some t531)) else (some false))) else (some false)))) = some r := by rw [if_neg (show ¬ (false = true) by decide)] at H; exact H
          clear H
          have H := H1
          clear H1
          replace H := Option.bind_eq_some_iff.mp H
          obtain ⟨t528, A1220, H⟩ := H
          replace H : ((rialtoref08_Same.f kj6 t495 t496 t497 t500 a0_0 a0_1 l0_2 a0_3).bind fun t529 => (if t529 = true then ((rialtoref08_SameEntries.f kj6 y502 l1_2).bind fun t530 => (if t530 = true then ((rialtolaw08_live.f kj6).bind fun t531 => (some t531)) else (some false))) else (some false))) = some r := H
          have A122 := Aside0.mk A1220
          clear A1220
          replace H := Option.bind_eq_some_iff.mp H
          obtain ⟨t529, A1230, H⟩ := H
          replace H : (if t529 = true then ((rialtoref08_SameEntries.f kj6 y502 l1_2).bind fun t530 => (if t530 = true then ((rialtolaw08_live.f kj6).bind fun t531 => (some t531)) else (some false))) else (some false)) = some r := H
          have A123 := Aside0.mk A1230
          clear A1230
          by_cases c124 : t529 = true
          focus
            subst c124
            have H1 : ((rialtoref08_SameEntries.f kj6 y502 l1_2).bind fun t530 => (if t530 = true then ((rialtolaw08_live.f kj6).bind fun t531 => (some t531)) else (some false))) = some r := by rw [if_pos rfl] at H; exact H
            clear H
            have H := H1
            clear H1
            replace H := Option.bind_eq_some_iff.mp H
            obtain ⟨t530, A1250, H⟩ := H
            replace H : (if t530 = true then ((rialtolaw08_live.f kj6).bind fun t531 => (some t531)) else (some false)) = some r := H
            have A125 := Aside0.mk A1250
            clear A1250
            by_cases c126 : t530 = true
            focus
              subst c126
              have H1 : ((rialtolaw08_live.f kj6).bind fun t531 => (some t531)) = some r := by rw [if_pos rfl] at H; exact H
              clear H
              have H := H1
              clear H1
              replace H := Option.bind_eq_some_iff.mp H
              obtain ⟨t531, A1270, H⟩ := H
              replace H : (some t531) = some r := H
              have A127 := Aside0.mk A1270
              clear A1270
              obtain rfl := Option.some.inj H
            rotate_left 1
            focus
              replace c126 := Bool.eq_false_iff.mpr c126
              subst c126
              have H1 : (some false) = some r := by rw [if_neg (show ¬ (false = true) by decide)] at H; exact H
              clear H
              have H := H1
              clear H1
              obtain rfl := Option.some.inj H
            rotate_left 1
          rotate_left 2
          focus
            replace c124 := Bool.eq_false_iff.mpr c124
            subst c124
            have H1 : (some false) = some r := by rw [if_neg (show ¬ (false = true) by decide)] at H; exact H
            clear H
            have H := H1
            clear H1
            obtain rfl := Option.some.inj H
          rotate_left 1
        rotate_left 3
        all_goals
          (try have hnbyb514_493 := NB514_493.out)
          (try have hncyb493_514 := NB493_514.out)
          (try have hnbyb514_494 := NB514_494.out)
          (try have hncyb494_514 := NB494_514.out)
          (try have hnbyb514_501 := NB514_501.out)
          (try have hncyb501_514 := NB501_514.out)
          (try have hnbyb514_524 := NB514_524.out)
          (try have hncyb524_514 := NB524_514.out)
          (try have hczyb514_0 : wc.cell? ⟨gb514, 0, none⟩ = some (.int .i64 t505) := (blk_cell BK514.out 0).trans rfl)
          (try have hczyb514_1 : wc.cell? ⟨gb514, 1, none⟩ = some (.int .i64 t506) := (blk_cell BK514.out 1).trans rfl)
          (try have hczyb514_2 : wc.cell? ⟨gb514, 2, none⟩ = some (.slice Ao29 t507.length co29) := (blk_cell BK514.out 2).trans rfl)
          (try have hczyb514_3 : wc.cell? ⟨gb514, 3, none⟩ = some (.int .i64 t510) := (blk_cell BK514.out 3).trans rfl)
          (try have hfzyb514_0 := blk_frozen BK514.out 0)
          (try have hfzyb514_1 := blk_frozen BK514.out 1)
          (try have hfzyb514_2 := blk_frozen BK514.out 2)
          (try have hfzyb514_3 := blk_frozen BK514.out 3)
          go_wp2_with (first | ((with_reducible refine gate_callee (f := 23) rfl ?_); refine goesL_ (some 80) rfl rfl Try.func23 (by kernel_rfl) rfl #[.slice Ao29 t507.length co29] rfl (by (try simp only [List.map_toArray, List.map_cons, List.map_nil]); first | done | rfl | (simp only [List.length_drop, List.length_take]; rfl)) ?_; (with_reducible refine (rialtolaw08_spoil.calls kj6 (fun k_ => some k_ = (.slice Ao29 t507.length co29 : Value).ownBlock) (.slice Ao29 t507.length co29) t507 t528 w _ ?side1 ?side2 A122.out).mono ?_); (case side1 => repeat (first | (with_reducible first | exact HB.out | apply below_alloc | apply pw_below_drewN | apply below_drew1 | refine below_set ?_ GE493.out | refine below_set ?_ GE494.out | refine below_set ?_ GE501.out | refine below_set ?_ GE514.out | refine below_set ?_ GE524.out) | exact HB.out)); (case side2 => exact Kd.R_tight rfl HO_515002.out); rintro e wx80i0 ⟨rfl, hy0, hb, hkp⟩; refine ⟨_, rfl, ?_⟩; have n0_ := Aside0.mk (Kd.R_mono (ok' := fun k_ => some k_ ≠ (.slice Ao17 t497.length co17 : Value).ownBlock ∧ some k_ ≠ (.slice Ao29 t507.length co29 : Value).ownBlock ∧ some k_ ≠ (.slice Ao39 t517.length co39 : Value).ownBlock) (Kd.R_keptB (HO_6.out) hkp (fun k_ hk_ hs_ => (hk_.2.1) hs_)) (fun k_ hk_ => ⟨hk_.1.1, hk_.1.2.1, hk_.1.2.2⟩)); have n1_ := Aside0.mk (Kd.R_mono (ok' := fun k_ => some k_ ≠ (.slice Ao22 y502.length co22 : Value).ownBlock ∧ some k_ ≠ (.slice Ao29 t507.length co29 : Value).ownBlock ∧ some k_ ≠ (.slice Ao39 t517.length co39 : Value).ownBlock) (Kd.R_keptB (HO_502002.out) hkp (fun k_ hk_ hs_ => (hk_.2.1) hs_)) (fun k_ hk_ => ⟨hk_.1.1, hk_.1.2.1, hk_.1.2.2⟩)); have n2_ := Aside0.mk (Kd.R_reok rfl hy0 (fun k_ e_ => HO_515002.out.1 k_ e_)); have n3_ := Aside0.mk (Kd.R_mono (ok' := fun k_ => some k_ ≠ (.slice Ao22 y502.length co22 : Value).ownBlock ∧ some k_ ≠ (.slice Ao17 t497.length co17 : Value).ownBlock ∧ some k_ ≠ (.slice Ao29 t507.length co29 : Value).ownBlock) (Kd.R_keptB (HO_525002.out) hkp (fun k_ hk_ hs_ => (hk_.2.2) hs_)) (fun k_ hk_ => ⟨hk_.1.1, hk_.1.2.1, hk_.1.2.2⟩)); have n4_ := Aside0.mk (blk_kept (by (with_reducible repeat (first | refine blk_drewN ?_ _ | refine blk_drew ?_ | refine blk_alloc ?_ _)); exact BK493.out) hkp (fun hs_ => (fun e_ => (Kd.R_ne HO_515002.out BK493.out (by decide)) e_) hs_)); have n5_ := Aside0.mk (blk_kept (by (with_reducible repeat (first | refine blk_drewN ?_ _ | refine blk_drew ?_ | refine blk_alloc ?_ _)); exact BK494.out) hkp (fun hs_ => (fun e_ => (Kd.R_ne HO_515002.out BK494.out (by decide)) e_) hs_)); have n6_ := Aside0.mk (blk_kept (by (with_reducible repeat (first | refine blk_drewN ?_ _ | refine blk_drew ?_ | refine blk_alloc ?_ _)); exact BK501.out) hkp (fun hs_ => (fun e_ => (Kd.R_ne HO_515002.out BK501.out (by decide)) e_) hs_)); have n7_ := Aside0.mk (blk_kept (by (with_reducible repeat (first | refine blk_drewN ?_ _ | refine blk_drew ?_ | refine blk_alloc ?_ _)); exact BK514.out) hkp (fun hs_ => (fun e_ => (Kd.R_ne HO_515002.out BK514.out (by decide)) e_) hs_)); have n8_ := Aside0.mk (blk_kept (by (with_reducible repeat (first | refine blk_drewN ?_ _ | refine blk_drew ?_ | refine blk_alloc ?_ _)); exact BK524.out) hkp (fun hs_ => (fun e_ => (Kd.R_ne HO_515002.out BK524.out (by decide)) e_) hs_)); have n9_ := Aside0.mk (hb); clear HO_6; clear HO_502002; clear HO_515002; clear HO_525002; clear BK493; clear BK494; clear BK501; clear BK514; clear BK524; clear HB; have HO_6 := n0_; have HO_502002 := n1_; have HO_515002 := n2_; have HO_525002 := n3_; have BK493 := n4_; have BK494 := n5_; have BK501 := n6_; have BK514 := n7_; have BK524 := n8_; have HB := n9_; clear n0_ n1_ n2_ n3_ n4_ n5_ n6_ n7_ n8_ n9_; (try clear hb); (try clear hkp); (try clear hy0); have hnbx80b501_493 := NB501_493.out; have hncx80b493_501 := NB493_501.out; have hnbx80b501_494 := NB501_494.out; have hncx80b494_501 := NB494_501.out; have hnbx80b501_524 := NB501_524.out; have hncx80b524_501 := NB524_501.out; have hczx80b501_0 : wx80i0.cell? ⟨gb501, 0, none⟩ = some (.int .i64 t495) := (blk_cell BK501.out 0).trans rfl; have hczx80b501_1 : wx80i0.cell? ⟨gb501, 1, none⟩ = some (.int .i64 t496) := (blk_cell BK501.out 1).trans rfl; have hczx80b501_2 : wx80i0.cell? ⟨gb501, 2, none⟩ = some (.slice Ao17 t497.length co17) := (blk_cell BK501.out 2).trans rfl; have hczx80b501_3 : wx80i0.cell? ⟨gb501, 3, none⟩ = some (.int .i64 t500) := (blk_cell BK501.out 3).trans rfl; have hfzx80b501_0 := blk_frozen BK501.out 0; have hfzx80b501_1 := blk_frozen BK501.out 1; have hfzx80b501_2 := blk_frozen BK501.out 2; have hfzx80b501_3 := blk_frozen BK501.out 3; have hnbx80b493_494 := NB493_494.out; have hncx80b494_493 := NB494_493.out; have hnbx80b493_524 := NB493_524.out; have hncx80b524_493 := NB524_493.out; have hczx80b493_0 : wx80i0.cell? ⟨gb493, 0, none⟩ = some (.int .i64 a0_0) := (blk_cell BK493.out 0).trans rfl; have hczx80b493_1 : wx80i0.cell? ⟨gb493, 1, none⟩ = some (.int .i64 a0_1) := (blk_cell BK493.out 1).trans rfl; have hczx80b493_2 : wx80i0.cell? ⟨gb493, 2, none⟩ = some (.slice A0_2 l0_2.length c0_2) := (blk_cell BK493.out 2).trans rfl; have hczx80b493_3 : wx80i0.cell? ⟨gb493, 3, none⟩ = some (.int .i64 a0_3) := (blk_cell BK493.out 3).trans rfl; have hfzx80b493_0 := blk_frozen BK493.out 0; have hfzx80b493_1 := blk_frozen BK493.out 1; have hfzx80b493_2 := blk_frozen BK493.out 2; have hfzx80b493_3 := blk_frozen BK493.out 3) | ((with_reducible refine gate_callee (f := 16) rfl ?_); refine goesL_ (some 83) rfl rfl Try.func16 (by kernel_rfl) rfl #[.agg #[.int .i64 t495, .int .i64 t496, .slice Ao17 t497.length co17, .int .i64 t500], .agg #[.int .i64 a0_0, .int .i64 a0_1, .slice A0_2 l0_2.length c0_2, .int .i64 a0_3]] rfl (by (try simp only [List.map_toArray, List.map_cons, List.map_nil]); first | done | rfl | (simp only [List.length_drop, List.length_take]; rfl)) ?_; (with_reducible refine (rialtoref08_Same.calls kj6 t495 t496 _ _ t497 t500 a0_0 a0_1 _ _ l0_2 a0_3 _ _ ?side1 ?side2 ?side3 ?side4 A123.out).mono ?_); (case side1 => repeat (first | exact (Kd.R_reads' HO_502002.out).2.2 | (with_reducible refine Kd.C_alloc ?_ _) | (with_reducible refine Kd.C_drewN ?_ _) | (with_reducible refine Kd.C_drew ?_))); (case side2 => exact (Kd.R_reads' HO_502002.out).2.1); (case side3 => repeat (first | exact (Kd.C_below HR0_2.out HB.out) | (with_reducible refine Kd.C_alloc ?_ _) | (with_reducible refine Kd.C_drewN ?_ _) | (with_reducible refine Kd.C_drew ?_))); (case side4 => exact HC0_2.out); rintro e wx83i0 ⟨rfl, hb⟩; refine ⟨_, rfl, ?_⟩; have n0_ := Aside0.mk (Kd.R_below (by (with_reducible repeat (first | apply Kd.R_alloc | apply Kd.R_drewN | apply Kd.R_drew)); exact HO_6.out) hb); have n1_ := Aside0.mk (Kd.R_below (by (with_reducible repeat (first | apply Kd.R_alloc | apply Kd.R_drewN | apply Kd.R_drew)); exact HO_502002.out) hb); have n2_ := Aside0.mk (Kd.R_below (by (with_reducible repeat (first | apply Kd.R_alloc | apply Kd.R_drewN | apply Kd.R_drew)); exact HO_515002.out) hb); have n3_ := Aside0.mk (Kd.R_below (by (with_reducible repeat (first | apply Kd.R_alloc | apply Kd.R_drewN | apply Kd.R_drew)); exact HO_525002.out) hb); have n4_ := Aside0.mk (blk_below (g := gb493) (o := .cells #[.int .i64 a0_0, .int .i64 a0_1, .slice A0_2 l0_2.length c0_2, .int .i64 a0_3] 26 (0, 0)) (by (with_reducible repeat (first | refine blk_drewN ?_ _ | refine blk_drew ?_ | refine blk_alloc ?_ _)); exact BK493.out) hb); have n5_ := Aside0.mk (blk_below (g := gb494) (o := .cells #[.int .i64 a1_0, .int .i64 a1_1, .slice A1_2 l1_2.length c1_2, .int .i64 a1_3] 41 (0, 0)) (by (with_reducible repeat (first | refine blk_drewN ?_ _ | refine blk_drew ?_ | refine blk_alloc ?_ _)); exact BK494.out) hb); have n6_ := Aside0.mk (blk_below (g := gb501) (o := .cells #[.int .i64 t495, .int .i64 t496, .slice Ao17 t497.length co17, .int .i64 t500] 26 (0, 0)) (by (with_reducible repeat (first | refine blk_drewN ?_ _ | refine blk_drew ?_ | refine blk_alloc ?_ _)); exact BK501.out) hb); have n7_ := Aside0.mk (blk_below (g := gb514) (o := .cells #[.int .i64 t505, .int .i64 t506, .slice Ao29 t507.length co29, .int .i64 t510] 26 (0, 0)) (by (with_reducible repeat (first | refine blk_drewN ?_ _ | refine blk_drew ?_ | refine blk_alloc ?_ _)); exact BK514.out) hb); have n8_ := Aside0.mk (blk_below (g := gb524) (o := .cells #[.int .i64 t515, .int .i64 t516, .slice Ao39 t517.length co39, .int .i64 t520] 26 (0, 0)) (by (with_reducible repeat (first | refine blk_drewN ?_ _ | refine blk_drew ?_ | refine blk_alloc ?_ _)); exact BK524.out) hb); have n9_ := Aside0.mk (below_step (by repeat (first | (with_reducible first | exact HB.out | apply below_alloc | apply pw_below_drewN | apply below_drew1 | refine below_set ?_ GE493.out | refine below_set ?_ GE494.out | refine below_set ?_ GE501.out | refine below_set ?_ GE514.out | refine below_set ?_ GE524.out) | exact HB.out)) hb); clear HO_6; clear HO_502002; clear HO_515002; clear HO_525002; clear BK493; clear BK494; clear BK501; clear BK514; clear BK524; clear HB; have HO_6 := n0_; have HO_502002 := n1_; have HO_515002 := n2_; have HO_525002 := n3_; have BK493 := n4_; have BK494 := n5_; have BK501 := n6_; have BK514 := n7_; have BK524 := n8_; have HB := n9_; clear n0_ n1_ n2_ n3_ n4_ n5_ n6_ n7_ n8_ n9_; (try clear hb); (try clear hb2); (try clear hk); (try clear hi); (try have hnbx83b494_524 := NB494_524.out); (try have hncx83b524_494 := NB524_494.out); (try have hczx83b494_0 : wx83i0.cell? ⟨gb494, 0, none⟩ = some (.int .i64 a1_0) := (blk_cell BK494.out 0).trans rfl); (try have hczx83b494_1 : wx83i0.cell? ⟨gb494, 1, none⟩ = some (.int .i64 a1_1) := (blk_cell BK494.out 1).trans rfl); (try have hczx83b494_2 : wx83i0.cell? ⟨gb494, 2, none⟩ = some (.slice A1_2 l1_2.length c1_2) := (blk_cell BK494.out 2).trans rfl); (try have hczx83b494_3 : wx83i0.cell? ⟨gb494, 3, none⟩ = some (.int .i64 a1_3) := (blk_cell BK494.out 3).trans rfl); (try have hfzx83b494_0 := blk_frozen BK494.out 0); (try have hfzx83b494_1 := blk_frozen BK494.out 1); (try have hfzx83b494_2 := blk_frozen BK494.out 2); (try have hfzx83b494_3 := blk_frozen BK494.out 3)) | (go_at_call 22; (with_reducible refine (rialtoref08_SameEntries.calls kj6 _ _ y502 _ _ l1_2 _ _ ?side1 ?side2 ?side3 ?side4 A125.out).mono ?_); (case side1 => repeat (first | exact (Kd.R_reads' HO_6.out).2.2 | (with_reducible refine Kd.C_alloc ?_ _) | (with_reducible refine Kd.C_drewN ?_ _) | (with_reducible refine Kd.C_drew ?_))); (case side2 => exact (Kd.R_reads' HO_6.out).2.1); (case side3 => repeat (first | exact (Kd.C_below HR1_2.out HB.out) | (with_reducible refine Kd.C_alloc ?_ _) | (with_reducible refine Kd.C_drewN ?_ _) | (with_reducible refine Kd.C_drew ?_))); (case side4 => exact HC1_2.out); rintro e w' ⟨rfl, ⟨nd, rfl⟩⟩) | (go_at_call 24; (with_reducible refine (rialtolaw08_live.calls kj6  t531 _ A127.out).mono ?_); rintro e wyi0 ⟨rfl, hb⟩; have n0_ := Aside0.mk (Kd.R_below (by (with_reducible repeat (first | apply Kd.R_alloc | apply Kd.R_drewN | apply Kd.R_drew)); exact HO_6.out) hb); have n1_ := Aside0.mk (Kd.R_below (by (with_reducible repeat (first | apply Kd.R_alloc | apply Kd.R_drewN | apply Kd.R_drew)); exact HO_502002.out) hb); have n2_ := Aside0.mk (Kd.R_below (by (with_reducible repeat (first | apply Kd.R_alloc | apply Kd.R_drewN | apply Kd.R_drew)); exact HO_515002.out) hb); have n3_ := Aside0.mk (Kd.R_below (by (with_reducible repeat (first | apply Kd.R_alloc | apply Kd.R_drewN | apply Kd.R_drew)); exact HO_525002.out) hb); have n4_ := Aside0.mk (blk_below (g := gb493) (o := .cells #[.int .i64 a0_0, .int .i64 a0_1, .slice A0_2 l0_2.length c0_2, .int .i64 a0_3] 26 (0, 0)) (by (with_reducible repeat (first | refine blk_drewN ?_ _ | refine blk_drew ?_ | refine blk_alloc ?_ _)); exact BK493.out) hb); have n5_ := Aside0.mk (blk_below (g := gb494) (o := .cells #[.int .i64 a1_0, .int .i64 a1_1, .slice A1_2 l1_2.length c1_2, .int .i64 a1_3] 41 (0, 0)) (by (with_reducible repeat (first | refine blk_drewN ?_ _ | refine blk_drew ?_ | refine blk_alloc ?_ _)); exact BK494.out) hb); have n6_ := Aside0.mk (blk_below (g := gb501) (o := .cells #[.int .i64 t495, .int .i64 t496, .slice Ao17 t497.length co17, .int .i64 t500] 26 (0, 0)) (by (with_reducible repeat (first | refine blk_drewN ?_ _ | refine blk_drew ?_ | refine blk_alloc ?_ _)); exact BK501.out) hb); have n7_ := Aside0.mk (blk_below (g := gb514) (o := .cells #[.int .i64 t505, .int .i64 t506, .slice Ao29 t507.length co29, .int .i64 t510] 26 (0, 0)) (by (with_reducible repeat (first | refine blk_drewN ?_ _ | refine blk_drew ?_ | refine blk_alloc ?_ _)); exact BK514.out) hb); have n8_ := Aside0.mk (blk_below (g := gb524) (o := .cells #[.int .i64 t515, .int .i64 t516, .slice Ao39 t517.length co39, .int .i64 t520] 26 (0, 0)) (by (with_reducible repeat (first | refine blk_drewN ?_ _ | refine blk_drew ?_ | refine blk_alloc ?_ _)); exact BK524.out) hb); have n9_ := Aside0.mk (below_step (by repeat (first | (with_reducible first | exact HB.out | apply below_alloc | apply pw_below_drewN | apply below_drew1 | refine below_set ?_ GE493.out | refine below_set ?_ GE494.out | refine below_set ?_ GE501.out | refine below_set ?_ GE514.out | refine below_set ?_ GE524.out) | exact HB.out)) hb); clear HO_6; clear HO_502002; clear HO_515002; clear HO_525002; clear BK493; clear BK494; clear BK501; clear BK514; clear BK524; clear HB; have HO_6 := n0_; have HO_502002 := n1_; have HO_515002 := n2_; have HO_525002 := n3_; have BK493 := n4_; have BK494 := n5_; have BK501 := n6_; have BK514 := n7_; have BK524 := n8_; have HB := n9_; clear n0_ n1_ n2_ n3_ n4_ n5_ n6_ n7_ n8_ n9_; (try clear hb); (try clear hb2); (try clear hk); (try clear hi)))
          go_ret
          exact ⟨by first | rfl | (simp [errW_none, errW_some] <;> rfl) | (simp [*, errW_none, errW_some] <;> rfl), by repeat (first | (with_reducible first | exact HB.out | apply below_alloc | apply pw_below_drewN | apply below_drew1 | refine below_set ?_ GE493.out | refine below_set ?_ GE494.out | refine below_set ?_ GE501.out | refine below_set ?_ GE514.out | refine below_set ?_ GE524.out) | exact HB.out)⟩
  · rw [if_neg c4] at H
    exact absurd H (by simp)

end Go.Proofs.Ytiebeiloooblpaa.E
end
section
-- the statement of a law, by myprint.py
namespace Go.Proofs.Ytiebeiloooblpaa.E
open Go.RowKit Go.Proofs.YtiebeiloooblpaaW.PrintWords Go.Proofs.YtiebeiloooblpaaW.PrintLast Go.Proofs.YtiebeiloooblpaaW.PrintMore
attribute [local go_sem] max2_int min2_int max_two min_two max_three min_three max_four min_four   -- for this text's walks alone
set_option linter.unusedVariables false
set_option linter.unusedSimpArgs false

def GEl33 (x : S33) : Prop := ((Lit.int .i64 x.f0).wf = true) ∧ ((Lit.int .i64 x.f1).wf = true) ∧ x.f2.size ≤ 1048576
/-- THE PURE STATEMENT of rialtolaw08_EntriesAccept. -/
def rialtolaw08_EntriesAccept.Pure : Prop := ∀ (a0_0 : Int) (a0_1 : Int) (l0_2 : List (S33)) (a0_3 : Int) (a1_0 : Int) (a1_1 : Int) (l1_2 : List (S33)) (a1_3 : Int), ((Lit.int .i64 a0_0).wf = true) → ((Lit.int .i64 a0_1).wf = true) → (l0_2.length ≤ 1048576 ∧ ∀ y_ ∈ l0_2, GEl33 y_) → ((Lit.int .i64 a0_3).wf = true) → ((Lit.int .i64 a1_0).wf = true) → ((Lit.int .i64 a1_1).wf = true) → (l1_2.length ≤ 1048576 ∧ ∀ y_ ∈ l1_2, GEl33 y_) → ((Lit.int .i64 a1_3).wf = true) → ∃ k, rialtolaw08_EntriesAccept.f k a0_0 a0_1 l0_2 a0_3 a1_0 a1_1 l1_2 a1_3 = some true
end Go.Proofs.Ytiebeiloooblpaa.E
end
section
/- Rounds: from some round on a function answers; words for plain laws. -/
namespace Go.Proofs.YtiebeiloooblpaaW.PrintWords
theorem Ev.eqv {α : Type} {F : Nat → Option α} {v u : α} (h : Ev F u) (e : u = v) : Ev F v := e ▸ h
theorem Ev.ite {α : Type} {c : Prop} [Decidable c] {F G : Nat → Option α} {v : α} (h : c → Ev F v) (g : ¬ c → Ev G v) : Ev (fun k => if c then F k else G k) v := by
  by_cases hc : c
  · simpa [hc] using h hc
  · simpa [hc] using g hc
theorem Ev.pos {α : Type} {c : Prop} [Decidable c] {F G : Nat → Option α} {v : α} (hc : c) (h : Ev F v) : Ev (fun k => if c then F k else G k) v := by
  simpa [hc] using h
theorem Ev.neg {α : Type} {c : Prop} [Decidable c] {F G : Nat → Option α} {v : α} (hc : ¬ c) (h : Ev G v) : Ev (fun k => if c then F k else G k) v := by
  simpa [hc] using h
theorem Ev.succ {α : Type} {F : Nat → Option α} {v : α} (h : Ev (fun k => F (k + 1)) v) : Ev F v := Ev.step (fun _ => rfl) h
end Go.Proofs.YtiebeiloooblpaaW.PrintWords
namespace Go.Proofs.YtiebeiloooblpaaEV
open Go.RowKit Go.Proofs.YtiebeiloooblpaaW.PrintWords
theorem w64 (n : Int) (h0 : -9223372036854775808 ≤ n) (h1 : n ≤ 9223372036854775807) : wrap64 n = n := by
  unfold wrap64; omega
theorem drop_one {α : Type} (l : List α) (d : α) (n : Nat) (h : n < l.length) : l.drop n = l.getD n d :: l.drop (n + 1) := by
  rw [List.drop_eq_getElem_cons h]; simp [List.getD, h]
end Go.Proofs.YtiebeiloooblpaaEV
end
section
namespace Go.Proofs.Ytiebeiloooblpaa.Pure
open Go.RowKit Go.Proofs.Ytiebeiloooblpaa.E Go.Proofs.YtiebeiloooblpaaW.PrintWords Go.Proofs.YtiebeiloooblpaaW.PrintLast Go.Proofs.YtiebeiloooblpaaW.PrintMore Go.Proofs.YtiebeiloooblpaaEV
-- the plain law of layer 8's logs
def isEn (x : S33) : Bool := entries_isEntry.p x.f0 x.f1 x.f2
def isMk (i t : Int) : Bool := (decide (0 ≤ i) && decide (i ≤ 1000000)) && ((decide (0 ≤ t) && decide (t ≤ 1000000)) && ((i == 0) == (t == 0)))
def rows : List S33 → Int → Bool
  | [], _ => true
  | x :: l, f => isEn x && (decide (f ≤ x.f0) && rows l x.f0)
def chk (b0 b1 : Int) (l : List S33) (c : Int) : Bool := isMk b0 b1 && (decide (l.length ≤ 400) && (rows l b1 && (decide (b0 + l.length ≤ 1000000) && (decide (b0 ≤ c) && decide (c ≤ b0 + l.length)))))

theorem entries_within_eq (a b c : Int) : entries_within.f a b c = some (decide (b ≤ a) && decide (a ≤ c)) := by
  unfold entries_within.f; by_cases h : b ≤ a <;> simp [h]
theorem ref08_within_eq (a b c : Int) : rialtoref08_within.f a b c = some (decide (b ≤ a) && decide (a ≤ c)) := by
  unfold rialtoref08_within.f; by_cases h : b ≤ a <;> simp [h]
theorem ref07_within_eq (a b c : Int) : rialtoref07_within.f a b c = some (decide (b ≤ a) && decide (a ≤ c)) := by
  unfold rialtoref07_within.f; by_cases h : b ≤ a <;> simp [h]
theorem entries_isMark_eq (i t : Int) : entries_isMark.f i t = some (isMk i t) := by
  unfold entries_isMark.f isMk
  simp only [entries_within_eq, Option.bind_some]
  by_cases h : (decide (0 ≤ i) && decide (i ≤ 1000000)) = true
  · rw [if_pos h, h]
    by_cases g : (decide (0 ≤ t) && decide (t ≤ 1000000)) = true
    · rw [if_pos g, g]; simp
    · rw [if_neg g]; simp [Bool.eq_false_iff.mpr g]
  · rw [if_neg h]; simp [Bool.eq_false_iff.mpr h]
theorem ref07_Mark_eq (i t : Int) : rialtoref07_Mark.f i t = some (isMk i t) := by
  unfold rialtoref07_Mark.f isMk
  simp only [ref07_within_eq, Option.bind_some]
  by_cases h : (decide (0 ≤ i) && decide (i ≤ 1000000)) = true
  · rw [if_pos h, h]
    by_cases g : (decide (0 ≤ t) && decide (t ≤ 1000000)) = true
    · rw [if_pos g, g]; simp
    · rw [if_neg g]; simp [Bool.eq_false_iff.mpr g]
  · rw [if_neg h]; simp [Bool.eq_false_iff.mpr h]
theorem ref08_Entry_eq (a b : Int) (s : ByteArray) : rialtoref08_Entry.f a b s = some (entries_isEntry.p a b s) := by
  unfold rialtoref08_Entry.f entries_isEntry.p
  simp only [ref08_within_eq, Option.bind_some]
  by_cases h : (decide (1 ≤ a) && decide (a ≤ 1000000)) = true
  · rw [if_pos h, h]
    by_cases hb : b = 1
    · subst hb
      by_cases hs : s.toList = ([] : List UInt8)
      · simp [hs]
      · simp [hs]
    · by_cases hb2 : b = 2
      · subst hb2; simp
      · simp [hb, hb2]
  · rw [if_neg h]; simp [Bool.eq_false_iff.mpr h]
theorem rd33 (l : List S33) (n : Nat) : rd_T33 l (n : Int) = l.getD n z33 := by simp [rd_T33]

theorem entries_rising_l (l : List S33) (hl : l.length < 4398046511104) (m n : Nat) (hn : n + m = l.length) (a : Int) :
    Ev (fun k => entries_rising.l0 k a l (l.length : Int) (n : Int)) (rows (l.drop n) a) := by
  induction m generalizing n a with
  | zero =>
    refine Ev.succ ?_
    simp only [entries_rising.l0]
    refine Ev.neg (by omega) ?_
    rw [List.drop_eq_nil_of_le (by omega)]
    exact Ev.now _
  | succ m ih =>
    refine Ev.succ ?_
    simp only [entries_rising.l0]
    refine Ev.pos (by omega) ?_
    refine Ev.pos (by omega) ?_
    refine Ev.pos (by omega) ?_
    rw [rd33, drop_one l z33 n (by omega)]
    unfold entries_isEntry.f
    simp only [Option.bind_some, rows, isEn]
    by_cases h : entries_isEntry.p (l.getD n z33).f0 (l.getD n z33).f1 (l.getD n z33).f2 = true
    · simp only [h, if_true, Bool.true_and]
      by_cases g : (l.getD n z33).f0 < a
      · simp only [g, if_true]
        rw [decide_eq_false (show ¬ a ≤ (l.getD n z33).f0 by omega), Bool.false_and]
        exact Ev.now _
      · simp only [g, if_false]
        rw [w64 _ (by omega) (by omega)]
        have := ih (n + 1) (by omega) (l.getD n z33).f0
        rw [decide_eq_true (show a ≤ (l.getD n z33).f0 by omega), Bool.true_and]
        exact this
    · simp only [Bool.eq_false_iff.mpr h, Bool.false_eq_true, if_false, Bool.false_and]
      exact Ev.now _
theorem ref08_Rows_l (l : List S33) (hl : l.length < 4398046511104) (m n : Nat) (hn : n + m = l.length) (a : Int) :
    Ev (fun k => rialtoref08_Rows.l0 k l a (n : Int)) (rows (l.drop n) a) := by
  induction m generalizing n a with
  | zero =>
    refine Ev.succ ?_
    simp only [rialtoref08_Rows.l0]
    refine Ev.neg (by omega) ?_
    rw [List.drop_eq_nil_of_le (by omega)]
    exact Ev.now _
  | succ m ih =>
    refine Ev.succ ?_
    simp only [rialtoref08_Rows.l0]
    refine Ev.pos (by omega) ?_
    refine Ev.pos (by omega) ?_
    rw [rd33, drop_one l z33 n (by omega)]
    simp only [ref08_Entry_eq, Option.bind_some, rows, isEn]
    by_cases h : entries_isEntry.p (l.getD n z33).f0 (l.getD n z33).f1 (l.getD n z33).f2 = true
    · simp only [h, if_true, Bool.true_and]
      by_cases g : (l.getD n z33).f0 < a
      · simp only [g, if_true]
        rw [decide_eq_false (show ¬ a ≤ (l.getD n z33).f0 by omega), Bool.false_and]
        exact Ev.now _
      · simp only [g, if_false]
        rw [w64 _ (by omega) (by omega)]
        have := ih (n + 1) (by omega) (l.getD n z33).f0
        rw [decide_eq_true (show a ≤ (l.getD n z33).f0 by omega), Bool.true_and]
        exact this
    · simp only [Bool.eq_false_iff.mpr h, Bool.false_eq_true, if_false, Bool.false_and]
      exact Ev.now _
theorem entries_rising_ev (l : List S33) (hl : l.length < 4398046511104) (a : Int) : Ev (fun k => entries_rising.f k l a) (rows l a) := by
  have := entries_rising_l l hl l.length 0 (by omega) a
  simpa [entries_rising.f] using this
theorem ref08_Rows_ev (l : List S33) (hl : l.length < 4398046511104) (a : Int) : Ev (fun k => rialtoref08_Rows.f k l a) (rows l a) := by
  have := ref08_Rows_l l hl l.length 0 (by omega) a
  simpa [rialtoref08_Rows.f] using this
theorem isMk_of {i t : Int} (h : isMk i t = true) : 0 ≤ i ∧ i ≤ 1000000 ∧ 0 ≤ t ∧ t ≤ 1000000 ∧ (i = 0 ↔ t = 0) := by
  simp only [isMk, Bool.and_eq_true, decide_eq_true_eq, beq_iff_eq] at h
  obtain ⟨⟨h1, h2⟩, ⟨h3, h4⟩, h5⟩ := h
  refine ⟨h1, h2, h3, h4, ?_⟩
  by_cases hi : i = 0
  · by_cases ht : t = 0
    · simp [hi, ht]
    · simp [hi, ht] at h5
  · by_cases ht : t = 0
    · simp [hi, ht] at h5
    · simp [hi, ht]
theorem chk_of {b0 b1 : Int} {l : List S33} {c : Int} (h : chk b0 b1 l c = true) : (0 ≤ b0 ∧ b0 ≤ 1000000 ∧ 0 ≤ b1 ∧ b1 ≤ 1000000 ∧ (b0 = 0 ↔ b1 = 0)) ∧ l.length ≤ 400 ∧ rows l b1 = true ∧ b0 + l.length ≤ 1000000 ∧ b0 ≤ c ∧ c ≤ b0 + l.length := by
  simp only [chk, Bool.and_eq_true, decide_eq_true_eq] at h
  obtain ⟨h1, h2, h3, h4, h5, h6⟩ := h
  exact ⟨isMk_of h1, h2, h3, h4, h5, h6⟩
theorem entries_Check_ev (b0 b1 : Int) (l : List S33) (c : Int) (hl : l.length < 4398046511104) :
    Ev (fun k => entries_Check.f k b0 b1 l c) (if chk b0 b1 l c = true then 0 else 80) := by
  unfold entries_Check.f chk
  simp only [entries_isMark_eq, Option.bind_some]
  by_cases h1 : isMk b0 b1 = true
  · have hm := isMk_of h1
    simp only [h1, if_true, Bool.true_and]
    by_cases h2 : (l.length : Int) > 400
    · simp only [h2, if_true]
      rw [decide_eq_false (show ¬ l.length ≤ 400 by omega)]
      simp only [Bool.false_and, Bool.false_eq_true, if_false]
      exact Ev.now _
    · simp only [h2, if_false]
      rw [decide_eq_true (show l.length ≤ 400 by omega)]
      simp only [Bool.true_and]
      refine Ev.bind (entries_rising_ev l hl b1) ?_
      by_cases h3 : rows l b1 = true
      · simp only [h3, if_true, Bool.true_and, entries_end.f, Option.bind_some, entries_within_eq]
        rw [w64 _ (by omega) (by omega)]
        by_cases h4 : b0 + (l.length : Int) ≤ 1000000
        · refine Ev.neg (by omega) ?_
          simp only [h4, decide_true, Bool.true_and]
          refine Ev.ite (fun h5 => ?_) (fun h5 => ?_)
          · rw [h5]; exact Ev.now _
          · rw [Bool.eq_false_iff.mpr h5]; exact Ev.now _
        · refine Ev.pos (by omega) ?_
          simp only [h4, decide_false, Bool.false_and, Bool.false_eq_true, if_false]
          exact Ev.now _
      · simp only [Bool.eq_false_iff.mpr h3, Bool.false_and, Bool.false_eq_true, if_false]
        exact Ev.now _
  · simp only [Bool.eq_false_iff.mpr h1, Bool.false_and, Bool.false_eq_true, if_false]
    exact Ev.now _
theorem ref08_Check_ev (b0 b1 : Int) (l : List S33) (c : Int) (hl : l.length < 4398046511104) :
    Ev (fun k => rialtoref08_Check.f k b0 b1 l c) (if chk b0 b1 l c = true then 0 else 80) := by
  unfold rialtoref08_Check.f chk
  simp only [ref07_Mark_eq, Option.bind_some]
  by_cases h1 : isMk b0 b1 = true
  · have hm := isMk_of h1
    simp only [h1, if_true, Bool.true_and]
    by_cases h2 : (l.length : Int) > 400
    · simp only [h2, if_true]
      rw [decide_eq_false (show ¬ l.length ≤ 400 by omega)]
      simp only [Bool.false_and, Bool.false_eq_true, if_false]
      exact Ev.now _
    · simp only [h2, if_false]
      rw [decide_eq_true (show l.length ≤ 400 by omega)]
      simp only [Bool.true_and]
      refine Ev.bind (ref08_Rows_ev l hl b1) ?_
      by_cases h3 : rows l b1 = true
      · simp only [h3, if_true, Bool.true_and, rialtoref08_end.f, Option.bind_some, ref08_within_eq]
        rw [w64 _ (by omega) (by omega)]
        by_cases h4 : b0 + (l.length : Int) ≤ 1000000
        · refine Ev.neg (by omega) ?_
          simp only [h4, decide_true, Bool.true_and]
          refine Ev.ite (fun h5 => ?_) (fun h5 => ?_)
          · rw [h5]; exact Ev.now _
          · rw [Bool.eq_false_iff.mpr h5]; exact Ev.now _
        · refine Ev.pos (by omega) ?_
          simp only [h4, decide_false, Bool.false_and, Bool.false_eq_true, if_false]
          exact Ev.now _
      · simp only [Bool.eq_false_iff.mpr h3, Bool.false_and, Bool.false_eq_true, if_false]
        exact Ev.now _
  · simp only [Bool.eq_false_iff.mpr h1, Bool.false_and, Bool.false_eq_true, if_false]
    exact Ev.now _
/-- the term at an index of a log -/
def termAt (b0 b1 : Int) (l : List S33) (c i : Int) : Int × Bool :=
  if chk b0 b1 l c = true ∧ b0 ≤ i ∧ i ≤ b0 + l.length then (if i = b0 then (b1, true) else ((l.getD (i - b0 - 1).toNat z33).f0, true)) else (0, false)
theorem entries_TermAt_ev (b0 b1 : Int) (l : List S33) (c i : Int) (hl : l.length < 4398046511104) :
    Ev (fun k => entries_TermAt.f k b0 b1 l c i) (termAt b0 b1 l c i) := by
  unfold entries_TermAt.f termAt
  refine Ev.bind (entries_Check_ev b0 b1 l c hl) ?_
  by_cases h1 : chk b0 b1 l c = true
  · obtain ⟨hm, hn, hr, he, hc⟩ := chk_of h1
    simp only [h1, if_true, true_and, entries_end.f, entries_within_eq, Option.bind_some]
    rw [w64 _ (by omega) (by omega)]
    refine Ev.succ ?_
    simp only [entries_TermAt.j0]
    by_cases h2 : b0 ≤ i ∧ i ≤ b0 + l.length
    · rw [if_pos h2]
      obtain ⟨h2, h3⟩ := h2
      refine Ev.neg (by simp; omega) ?_
      by_cases h4 : i = b0
      · refine Ev.eqv ?_ (if_pos h4).symm
        exact Ev.pos h4 (Ev.now _)
      · refine Ev.eqv ?_ (if_neg h4).symm
        have e : wrap64 (wrap64 (i - b0) - 1) = i - b0 - 1 := by rw [w64 (i - b0) (by omega) (by omega), w64 _ (by omega) (by omega)]
        rw [e]
        exact Ev.neg h4 (Ev.pos (by omega) (Ev.pos (by omega) (Ev.now _)))
    · rw [if_neg h2]
      exact Ev.pos (by simp; omega) (Ev.now _)
  · simp only [Bool.eq_false_iff.mpr h1, Bool.false_eq_true, if_false, false_and]
    refine Ev.neg (by omega) ?_
    refine Ev.succ ?_
    simp only [entries_TermAt.j0, if_true]
    exact Ev.now _
theorem ref08_TermAt_ev (b0 b1 : Int) (l : List S33) (c i : Int) (hl : l.length < 4398046511104) :
    Ev (fun k => rialtoref08_TermAt.f k b0 b1 l c i) (termAt b0 b1 l c i) := by
  unfold rialtoref08_TermAt.f termAt
  refine Ev.bind (ref08_Check_ev b0 b1 l c hl) ?_
  by_cases h1 : chk b0 b1 l c = true
  · obtain ⟨hm, hn, hr, he, hc⟩ := chk_of h1
    simp only [h1, if_true, true_and, rialtoref08_end.f, Option.bind_some]
    rw [w64 (b0 + (l.length : Int)) (by omega) (by omega)]
    by_cases h2 : b0 ≤ i
    · refine Ev.neg (by omega) ?_
      refine Ev.succ ?_
      simp only [rialtoref08_TermAt.j0]
      by_cases h3 : i ≤ b0 + l.length
      · rw [if_pos (And.intro h2 h3)]
        refine Ev.neg (by simp; omega) ?_
        by_cases h4 : i = b0
        · refine Ev.eqv ?_ (if_pos h4).symm
          exact Ev.pos h4 (Ev.now _)
        · refine Ev.eqv ?_ (if_neg h4).symm
          have e : wrap64 (wrap64 (i - b0) - 1) = i - b0 - 1 := by rw [w64 (i - b0) (by omega) (by omega), w64 _ (by omega) (by omega)]
          rw [e]
          exact Ev.neg h4 (Ev.pos (by omega) (Ev.pos (by omega) (Ev.now _)))
      · rw [if_neg (show ¬ (b0 ≤ i ∧ i ≤ b0 + l.length) by omega)]
        exact Ev.pos (by simp; omega) (Ev.now _)
    · rw [if_neg (by omega)]
      refine Ev.pos (by omega) ?_
      refine Ev.succ ?_
      simp only [rialtoref08_TermAt.j0, if_true]
      exact Ev.now _
  · simp only [Bool.eq_false_iff.mpr h1, Bool.false_eq_true, if_false, false_and]
    refine Ev.neg (by omega) ?_
    refine Ev.succ ?_
    simp only [rialtoref08_TermAt.j0, if_true]
    exact Ev.now _
theorem ref08_SameEntries_l (l : List S33) (hl : l.length < 4398046511104) (m n : Nat) (hn : n + m = l.length) :
    Ev (fun k => rialtoref08_SameEntries.l0 k l l (n : Int)) true := by
  induction m generalizing n with
  | zero =>
    refine Ev.succ ?_
    simp only [rialtoref08_SameEntries.l0]
    refine Ev.neg (by omega) ?_
    exact Ev.now _
  | succ m ih =>
    refine Ev.succ ?_
    simp only [rialtoref08_SameEntries.l0]
    refine Ev.pos (by omega) ?_
    refine Ev.pos (by omega) ?_
    refine Ev.pos (by omega) ?_
    refine Ev.neg (by simp) ?_
    rw [w64 _ (by omega) (by omega)]
    exact ih (n + 1) (by omega)
theorem ref08_SameEntries_ev (l : List S33) (hl : l.length < 4398046511104) : Ev (fun k => rialtoref08_SameEntries.f k l l) true := by
  have := ref08_SameEntries_l l hl l.length 0 (by omega)
  simpa [rialtoref08_SameEntries.f] using this
theorem ref08_Same_ev (b0 b1 : Int) (l : List S33) (c : Int) (hl : l.length < 4398046511104) : Ev (fun k => rialtoref08_Same.f k b0 b1 l c b0 b1 l c) true := by
  unfold rialtoref08_Same.f
  refine Ev.pos (by simp) ?_
  refine Ev.pos rfl ?_
  exact Ev.bind (ref08_SameEntries_ev l hl) (Ev.now _)
theorem ref08_Copy_eq (b0 b1 : Int) (l : List S33) (c : Int) (hl : l.length < 4398046511104) : rialtoref08_Copy.f b0 b1 l c = some (b0, b1, l, c) := by
  unfold rialtoref08_Copy.f
  rw [if_pos (by simp; omega)]; simp
theorem slicesClone_Entry_eq (l : List S33) (hl : l.length < 4398046511104) : slicesClone_Entry.f l = some l := by
  unfold slicesClone_Entry.f; rw [if_pos (by omega)]
end Go.Proofs.Ytiebeiloooblpaa.Pure
end
section
-- written by myprint.py, a program of this session over the kit's print.py
namespace Go.Proofs.Ytiebeiloooblpaa.E
open Go.Proofs.YtiebeiloooblpaaST
open Go.RowKit Go.Proofs.YtiebeiloooblpaaW.PrintWords Go.Proofs.YtiebeiloooblpaaW.PrintLast Go.Proofs.YtiebeiloooblpaaW.PrintMore
attribute [local go_sem] max2_int min2_int max_two min_two max_three min_three max_four min_four   -- for this text's walks alone
set_option linter.unusedVariables false
set_option linter.unusedSimpArgs false

/-! ### rialtoref08_Last: function 33 -/
end Go.Proofs.Ytiebeiloooblpaa.E
end
section
-- written by myprint.py, a program of this session over the kit's print.py
namespace Go.Proofs.Ytiebeiloooblpaa.E
open Go.RowKit Go.Proofs.YtiebeiloooblpaaW.PrintWords Go.Proofs.YtiebeiloooblpaaW.PrintLast Go.Proofs.YtiebeiloooblpaaW.PrintMore
attribute [local go_sem] max2_int min2_int max_two min_two max_three min_three max_four min_four   -- for this text's walks alone
set_option linter.unusedVariables false
set_option linter.unusedSimpArgs false

/-! ### entries_From: function 29 -/
end Go.Proofs.Ytiebeiloooblpaa.E
end
section
-- written by myprint.py, a program of this session over the kit's print.py
namespace Go.Proofs.Ytiebeiloooblpaa.E
open Go.RowKit Go.Proofs.YtiebeiloooblpaaW.PrintWords Go.Proofs.YtiebeiloooblpaaW.PrintLast Go.Proofs.YtiebeiloooblpaaW.PrintMore
attribute [local go_sem] max2_int min2_int max_two min_two max_three min_three max_four min_four   -- for this text's walks alone
set_option linter.unusedVariables false
set_option linter.unusedSimpArgs false

/-! ### rialtoref08_From: function 34 -/
end Go.Proofs.Ytiebeiloooblpaa.E
end
section
namespace Go.Proofs.Ytiebeiloooblpaa.Pure
open Go.RowKit Go.Proofs.Ytiebeiloooblpaa.E Go.Proofs.YtiebeiloooblpaaW.PrintWords Go.Proofs.YtiebeiloooblpaaW.PrintLast Go.Proofs.YtiebeiloooblpaaW.PrintMore Go.Proofs.YtiebeiloooblpaaEV
-- the plain law of layer 8: the last mark, entries from an index on
theorem spoil_l (d : Nat) : ∀ (l : List S33) (i : Nat), l.length < 4398046511104 → i + d = l.length → ∃ q, Ev (fun k => rialtolaw08_spoil.l0 k l (i : Int)) q := by
  induction d with
  | zero =>
    intro l i hl hi
    refine ⟨l, Ev.succ ?_⟩
    simp only [rialtolaw08_spoil.l0]
    exact Ev.neg (by omega) (Ev.now _)
  | succ d ih =>
    intro l i hl hi
    obtain ⟨q, hq⟩ := ih (l.set i (⟨(rd_T33 l i).f0, (rd_T33 l i).f1, (⟨#[119, 114, 105, 116, 116, 101, 110]⟩ : ByteArray)⟩ : S33)) (i + 1) (by simpa using hl) (by simp; omega)
    refine ⟨q, Ev.succ ?_⟩
    simp only [rialtolaw08_spoil.l0]
    refine Ev.pos (by omega) (Ev.pos (by omega) ?_)
    rw [w64 _ (by omega) (by omega)]
    exact hq
theorem spoil_ev (l : List S33) (hl : l.length < 4398046511104) : ∃ q, Ev (fun k => rialtolaw08_spoil.f k l) q := spoil_l l.length l 0 hl (by omega)
theorem live8_ev : Ev (fun k => rialtolaw08_live.f k) true := Ev.of (k := 30) (fun k => rialtolaw08_live.mono k) (by kernel_rfl)
end Go.Proofs.Ytiebeiloooblpaa.Pure
end
section
namespace Go.Proofs.Ytiebeiloooblpaa.Pure
open Go.RowKit Go.Proofs.Ytiebeiloooblpaa.E Go.Proofs.YtiebeiloooblpaaW.PrintWords Go.Proofs.YtiebeiloooblpaaW.PrintLast Go.Proofs.YtiebeiloooblpaaW.PrintMore Go.Proofs.YtiebeiloooblpaaEV
-- the plain law of layer 8: what is accepted
/-- from entry i on: the log that comes out; none: what is committed would be lost -/
def cut (b0 b1 : Int) (l : List S33) (c p0 : Int) : Nat → List S33 → Option (List S33)
  | _, [] => some l
  | i, e :: es => if p0 + 1 + i ≤ b0 then cut b0 b1 l c p0 (i + 1) es else if (termAt b0 b1 l c (p0 + 1 + i)).2 = true ∧ (termAt b0 b1 l c (p0 + 1 + i)).1 = e.f0 then cut b0 b1 l c p0 (i + 1) es
    else if p0 + 1 + i ≤ c then none else some (l.take (p0 + 1 + i - b0 - 1).toNat ++ e :: es)
def fin (b0 b1 : Int) (c p0 n cm : Int) (out : List S33) : Int × Int × List S33 × Int × Int × Bool × Int :=
  if rows out b1 = true then (if (out.length : Int) > 400 ∨ b0 + (out.length : Int) > 1000000 then (0, 0, [], 0, 0, false, 2) else (b0, b1, out, mx c (mn cm (p0 + n)), mx (p0 + n) b0, true, 0)) else (0, 0, [], 0, 0, false, 80)
def accRest (b0 b1 : Int) (l : List S33) (c p0 : Int) (es : List S33) (cm : Int) : Int × Int × List S33 × Int × Int × Bool × Int :=
  match cut b0 b1 l c p0 0 es with
  | none => (0, 0, [], 0, 0, false, 80)
  | some out => fin b0 b1 c p0 es.length cm out
def acc (b0 b1 : Int) (l : List S33) (c p0 p1 : Int) (es : List S33) (cm : Int) : Int × Int × List S33 × Int × Int × Bool × Int :=
  if chk b0 b1 l c = true then (if isMk p0 p1 = true ∧ (0 ≤ cm ∧ cm ≤ 1000000) ∧ rows es p1 = true then
    (if p0 ≥ b0 ∧ ¬ ((termAt b0 b1 l c p0).2 = true ∧ (termAt b0 b1 l c p0).1 = p1) then (b0, b1, l, c, 0, false, 0) else accRest b0 b1 l c p0 es cm)
    else (0, 0, [], 0, 0, false, 1)) else (0, 0, [], 0, 0, false, 80)
theorem termAt_end {b0 b1 : Int} {l : List S33} {c i : Int} (h : (termAt b0 b1 l c i).2 = true) : b0 ≤ i ∧ i ≤ b0 + l.length := by
  unfold termAt at h
  split at h
  · rename_i g; exact g.2
  · cases h
section
variable (b0 b1 : Int) (l : List S33) (c p0 p1 : Int) (es : List S33) (cm : Int)
theorem entries_j3 (h1 : chk b0 b1 l c = true) (hp : 0 ≤ p0 ∧ p0 ≤ 1000000) (hes : es.length ≤ 4398046510000) (out : List S33) (ho : out.length ≤ 4398046511000) :
    Ev (fun k => entries_Accept.j3 k es cm b0 b1 l c p0 p1 b0 b1 out c) (fin b0 b1 c p0 es.length cm out) := by
  obtain ⟨hm, hn, hr, he, hc⟩ := chk_of h1
  refine Ev.succ ?_
  simp only [entries_Accept.j3, entries_end.f, Option.bind_some]
  unfold fin
  refine Ev.bind (entries_rising_ev out (by omega) b1) ?_
  by_cases h2 : rows out b1 = true
  · rw [w64 (b0 + (out.length : Int)) (by omega) (by omega), w64 (p0 + (es.length : Int)) (by omega) (by omega)]
    refine Ev.eqv (Ev.pos h2 ?_) (if_pos h2).symm
    by_cases h3 : (out.length : Int) > 400
    · exact Ev.eqv (Ev.pos h3 (Ev.now _)) (if_pos (.inl h3)).symm
    · by_cases h4 : b0 + (out.length : Int) > 1000000
      · exact Ev.eqv (Ev.neg h3 (Ev.pos h4 (Ev.now _))) (if_pos (.inr h4)).symm
      · exact Ev.eqv (Ev.neg h3 (Ev.neg h4 (Ev.now _))) (if_neg (by omega)).symm
  · exact Ev.eqv (Ev.neg h2 (Ev.now _)) (if_neg h2).symm
theorem ref_j4 (h1 : chk b0 b1 l c = true) (hp : 0 ≤ p0 ∧ p0 ≤ 1000000) (hes : es.length ≤ 4398046510000) (out : List S33) (ho : out.length ≤ 4398046511000) :
    Ev (fun k => rialtoref08_Accept.j4 k cm (p0 + es.length) b0 b1 l c b0 b1 out c) (fin b0 b1 c p0 es.length cm out) := by
  obtain ⟨hm, hn, hr, he, hc⟩ := chk_of h1
  refine Ev.succ ?_
  simp only [rialtoref08_Accept.j4, rialtoref08_end.f, Option.bind_some]
  unfold fin
  refine Ev.bind (ref08_Rows_ev out (by omega) b1) ?_
  by_cases h2 : rows out b1 = true
  · rw [w64 (b0 + (out.length : Int)) (by omega) (by omega)]
    refine Ev.eqv (Ev.pos h2 ?_) (if_pos h2).symm
    by_cases h3 : (out.length : Int) > 400
    · exact Ev.eqv (Ev.pos h3 (Ev.now _)) (if_pos (.inl h3)).symm
    · by_cases h4 : b0 + (out.length : Int) > 1000000
      · exact Ev.eqv (Ev.neg h3 (Ev.pos h4 (Ev.now _))) (if_pos (.inr h4)).symm
      · exact Ev.eqv (Ev.neg h3 (Ev.neg h4 (Ev.now _))) (if_neg (by omega)).symm
  · exact Ev.eqv (Ev.neg h2 (Ev.now _)) (if_neg h2).symm
/-- what the rest of the round answers, from entry i on -/
def restV (i : Nat) : Int × Int × List S33 × Int × Int × Bool × Int :=
  match cut b0 b1 l c p0 i (es.drop i) with
  | none => (0, 0, [], 0, 0, false, 80)
  | some out => fin b0 b1 c p0 es.length cm out
theorem entries_l0 (h1 : chk b0 b1 l c = true) (hp : 0 ≤ p0 ∧ p0 ≤ 1000000) (hes : es.length ≤ 4398046510000) (d : Nat) : ∀ i : Nat, i + d = es.length → p0 + i ≤ b0 + l.length ∨ p0 + i < b0 →
    Ev (fun k => entries_Accept.l0 k es cm es (es.length : Int) (i : Int) b0 b1 l c p0 p1 b0 b1 l c) (restV b0 b1 l c p0 es cm i) := by
  obtain ⟨hm, hn, hr, he, hc⟩ := chk_of h1
  induction d with
  | zero =>
    intro i hi hat
    refine Ev.succ ?_
    simp only [entries_Accept.l0]
    refine Ev.neg (by omega) ?_
    unfold restV
    rw [List.drop_eq_nil_of_le (by omega)]
    exact entries_j3 b0 b1 l c p0 p1 es cm h1 hp hes l (by omega)
  | succ d ih =>
    intro i hi hat
    have hdr := drop_one es z33 i (by omega)
    refine Ev.succ ?_
    simp only [entries_Accept.l0]
    rw [w64 (p0 + 1) (by omega) (by omega), w64 (p0 + 1 + (i : Int)) (by omega) (by omega), w64 ((i : Int) + 1) (by omega) (by omega)]
    refine Ev.pos (by omega) (Ev.pos (by omega) (Ev.pos (by omega) ?_))
    unfold restV
    rw [hdr]
    unfold cut
    by_cases h2 : p0 + 1 + (i : Int) ≤ b0
    · rw [if_pos h2]
      exact Ev.pos h2 (ih (i + 1) (by omega) (by omega))
    · rw [if_neg h2]
      refine Ev.neg h2 (Ev.bind (entries_TermAt_ev b0 b1 l c _ (by omega)) ?_)
      have next : Ev (fun k => entries_Accept.l0 k es cm es (es.length : Int) ((i : Int) + 1) b0 b1 l c p0 p1 b0 b1 l c) (restV b0 b1 l c p0 es cm (i + 1)) ∨ ¬ (termAt b0 b1 l c (p0 + 1 + i)).2 = true := by
        by_cases g : (termAt b0 b1 l c (p0 + 1 + i)).2 = true
        · have := termAt_end g
          exact .inl (ih (i + 1) (by omega) (by omega))
        · exact .inr g
      have bad : p0 + 1 + (i : Int) ≤ b0 + l.length + 1 := by omega
      have stop : Ev (fun k => entries_Accept.j2 k es cm (i : Int) (p0 + 1 + (i : Int)) es (es.length : Int) (i : Int) false b0 b1 l c p0 p1 b0 b1 l c)
          (match (if p0 + 1 + (i : Int) ≤ c then none else some (l.take (p0 + 1 + i - b0 - 1).toNat ++ es.getD i z33 :: es.drop (i + 1))) with | none => (0, 0, [], 0, 0, false, 80) | some out => fin b0 b1 c p0 es.length cm out) := by
        refine Ev.succ ?_
        simp only [entries_Accept.j2, Bool.false_eq_true, if_false]
        rw [w64 (p0 + 1 + (i : Int) - b0) (by omega) (by omega), w64 (p0 + 1 + (i : Int) - b0 - 1) (by omega) (by omega)]
        by_cases h3 : p0 + 1 + (i : Int) ≤ c
        · rw [if_pos h3]; exact Ev.pos h3 (Ev.now _)
        · rw [if_neg h3]
          refine Ev.neg h3 (Ev.pos (by omega) (Ev.pos (by omega) (Ev.bind (Ev.now _) (Ev.pos (by omega) (Ev.pos (by omega) (Ev.bind (Ev.now _) ?_))))))
          rw [Int.toNat_natCast, hdr]
          refine Ev.pos (by simp; omega) ?_
          exact entries_j3 b0 b1 l c p0 p1 es cm h1 hp hes _ (by simp; omega)
      by_cases h3 : (termAt b0 b1 l c (p0 + 1 + i)).2 = true
      · refine Ev.pos h3 ?_
        by_cases h4 : (termAt b0 b1 l c (p0 + 1 + i)).1 = (es.getD i z33).f0
        · rw [if_pos ⟨h3, h4⟩, rd33, h4]
          refine Ev.succ ?_
          simp only [entries_Accept.j2, beq_self_eq_true, if_true]
          rw [w64 ((i : Int) + 1) (by omega) (by omega)]
          exact next.resolve_right (fun g => g h3)
        · rw [if_neg (fun g => h4 g.2), rd33, beq_eq_false_iff_ne.mpr h4]
          exact stop
      · rw [if_neg (fun g => h3 g.1)]
        exact Ev.neg h3 stop
theorem ref_l0 (h1 : chk b0 b1 l c = true) (hp : 0 ≤ p0 ∧ p0 ≤ 1000000) (hes : es.length ≤ 4398046510000) (d : Nat) : ∀ i : Nat, i + d = es.length → p0 + i ≤ b0 + l.length ∨ p0 + i < b0 →
    Ev (fun k => rialtoref08_Accept.l0 k es cm (p0 + es.length) (i : Int) b0 b1 l c p0 p1 b0 b1 l c) (restV b0 b1 l c p0 es cm i) := by
  obtain ⟨hm, hn, hr, he, hc⟩ := chk_of h1
  induction d with
  | zero =>
    intro i hi hat
    refine Ev.succ ?_
    simp only [rialtoref08_Accept.l0]
    refine Ev.neg (by omega) ?_
    unfold restV
    rw [List.drop_eq_nil_of_le (by omega)]
    exact ref_j4 b0 b1 l c p0 es cm h1 hp hes l (by omega)
  | succ d ih =>
    intro i hi hat
    have hdr := drop_one es z33 i (by omega)
    refine Ev.succ ?_
    simp only [rialtoref08_Accept.l0]
    rw [w64 (p0 + 1) (by omega) (by omega), w64 (p0 + 1 + (i : Int)) (by omega) (by omega), w64 ((i : Int) + 1) (by omega) (by omega)]
    refine Ev.pos (by omega) ?_
    unfold restV
    rw [hdr]
    unfold cut
    by_cases h2 : p0 + 1 + (i : Int) ≤ b0
    · rw [if_pos h2]
      exact Ev.pos h2 (ih (i + 1) (by omega) (by omega))
    · rw [if_neg h2]
      refine Ev.neg h2 (Ev.bind (ref08_TermAt_ev b0 b1 l c _ (by omega)) ?_)
      have next : Ev (fun k => rialtoref08_Accept.l0 k es cm (p0 + es.length) ((i : Int) + 1) b0 b1 l c p0 p1 b0 b1 l c) (restV b0 b1 l c p0 es cm (i + 1)) ∨ ¬ (termAt b0 b1 l c (p0 + 1 + i)).2 = true := by
        by_cases g : (termAt b0 b1 l c (p0 + 1 + i)).2 = true
        · have := termAt_end g
          exact .inl (ih (i + 1) (by omega) (by omega))
        · exact .inr g
      have bad : p0 + 1 + (i : Int) ≤ b0 + l.length + 1 := by omega
      have stop : Ev (fun k => rialtoref08_Accept.j3 k es cm (p0 + es.length) (i : Int) (p0 + 1 + (i : Int)) false b0 b1 l c p0 p1 b0 b1 l c)
          (match (if p0 + 1 + (i : Int) ≤ c then none else some (l.take (p0 + 1 + i - b0 - 1).toNat ++ es.getD i z33 :: es.drop (i + 1))) with | none => (0, 0, [], 0, 0, false, 80) | some out => fin b0 b1 c p0 es.length cm out) := by
        refine Ev.succ ?_
        simp only [rialtoref08_Accept.j3, Bool.false_eq_true, if_false]
        rw [w64 (p0 + 1 + (i : Int) - b0) (by omega) (by omega), w64 (p0 + 1 + (i : Int) - b0 - 1) (by omega) (by omega)]
        by_cases h3 : p0 + 1 + (i : Int) ≤ c
        · rw [if_pos h3]; exact Ev.pos h3 (Ev.now _)
        · rw [if_neg h3]
          refine Ev.neg h3 (Ev.pos (by omega) (Ev.pos (by omega) (Ev.bind (Ev.now _) (Ev.pos (by simp; omega) (Ev.bind (Ev.now _) (Ev.pos (by omega) (Ev.pos (by omega) (Ev.bind (Ev.now _) ?_))))))))
          rw [Int.toNat_natCast, hdr, List.nil_append]
          refine Ev.pos (by simp; omega) ?_
          exact ref_j4 b0 b1 l c p0 es cm h1 hp hes _ (by simp; omega)
      by_cases h3 : (termAt b0 b1 l c (p0 + 1 + i)).2 = true
      · refine Ev.pos h3 (Ev.pos (by omega) ?_)
        by_cases h4 : (termAt b0 b1 l c (p0 + 1 + i)).1 = (es.getD i z33).f0
        · rw [if_pos ⟨h3, h4⟩, rd33, h4]
          refine Ev.succ ?_
          simp only [rialtoref08_Accept.j3, beq_self_eq_true, if_true]
          rw [w64 ((i : Int) + 1) (by omega) (by omega)]
          exact next.resolve_right (fun g => g h3)
        · rw [if_neg (fun g => h4 g.2), rd33, beq_eq_false_iff_ne.mpr h4]
          exact stop
      · rw [if_neg (fun g => h3 g.1)]
        exact Ev.neg h3 stop
theorem accRest_eq : accRest b0 b1 l c p0 es cm = restV b0 b1 l c p0 es cm 0 := by
  unfold accRest restV; rw [List.drop_zero]
theorem entries_Accept_ev (hl : l.length < 4398046511104) (hes : es.length ≤ 4398046510000) : Ev (fun k => entries_Accept.f k b0 b1 l c p0 p1 es cm) (acc b0 b1 l c p0 p1 es cm) := by
  unfold entries_Accept.f acc
  refine Ev.bind (entries_Check_ev b0 b1 l c hl) ?_
  by_cases h1 : chk b0 b1 l c = true
  · obtain ⟨hm, hn, hr, he, hc⟩ := chk_of h1
    simp only [h1, if_true, entries_isMark_eq, entries_within_eq, Option.bind_some]
    by_cases h2 : isMk p0 p1 = true
    · obtain ⟨q0, q1, -, -, -⟩ := isMk_of h2
      simp only [h2, if_true, true_and]
      by_cases h3 : 0 ≤ cm ∧ cm ≤ 1000000
      · refine Ev.pos (show (decide (0 ≤ cm) && decide (cm ≤ 1000000)) = true by simp; omega) ?_
        refine Ev.bind (entries_rising_ev es (by omega) p1) ?_
        by_cases h4 : rows es p1 = true
        · simp only [h4, if_true, h3, and_self]
          rw [slicesClone_Entry_eq l hl]
          refine Ev.bind (Ev.now _) ?_
          have rest : (p0 + 0 ≤ b0 + l.length ∨ p0 + 0 < b0) → Ev (fun k => entries_Accept.j0 k es cm b0 b1 l c p0 p1 b0 b1 l c) (accRest b0 b1 l c p0 es cm) := by
            intro g
            refine Ev.succ ?_
            simp only [entries_Accept.j0]
            rw [accRest_eq]
            exact entries_l0 b0 b1 l c p0 p1 es cm h1 ⟨q0, q1⟩ hes es.length 0 (by omega) (by simpa using g)
          by_cases h5 : p0 ≥ b0
          · refine Ev.pos h5 (Ev.bind (entries_TermAt_ev b0 b1 l c p0 hl) ?_)
            by_cases h6 : (termAt b0 b1 l c p0).2 = true
            · refine Ev.pos h6 ?_
              by_cases h7 : (termAt b0 b1 l c p0).1 = p1
              · have := termAt_end h6
                exact Ev.eqv (Ev.pos h7 (rest (by omega))) (if_neg (fun g => g.2 ⟨h6, h7⟩)).symm
              · exact Ev.eqv (Ev.neg h7 (Ev.now _)) (if_pos ⟨h5, fun g => h7 g.2⟩).symm
            · exact Ev.eqv (Ev.neg h6 (Ev.now _)) (if_pos ⟨h5, fun g => h6 g.1⟩).symm
          · exact Ev.eqv (Ev.neg h5 (rest (by omega))) (if_neg (fun g => h5 g.1)).symm
        · simp only [Bool.eq_false_iff.mpr h4, Bool.false_eq_true, if_false, and_false]
          exact Ev.now _
      · exact Ev.eqv (Ev.neg (show ¬ (decide (0 ≤ cm) && decide (cm ≤ 1000000)) = true by simp; omega) (Ev.now _)) (if_neg (fun g => h3 g.1)).symm
    · simp only [Bool.eq_false_iff.mpr h2, Bool.false_eq_true, if_false, false_and]
      exact Ev.now _
  · simp only [Bool.eq_false_iff.mpr h1, Bool.false_eq_true, if_false]
    exact Ev.neg (by omega) (Ev.now _)
theorem ref08_Accept_ev (hl : l.length < 4398046511104) (hes : es.length ≤ 4398046510000) : Ev (fun k => rialtoref08_Accept.f k b0 b1 l c p0 p1 es cm) (acc b0 b1 l c p0 p1 es cm) := by
  unfold rialtoref08_Accept.f acc
  refine Ev.bind (ref08_Check_ev b0 b1 l c hl) ?_
  have no : Ev (fun k => rialtoref08_Accept.j0 k es cm true b0 b1 l c p0 p1) (0, 0, [], 0, 0, false, 1) := by
    refine Ev.succ ?_
    simp only [rialtoref08_Accept.j0, if_true]; exact Ev.now _
  by_cases h1 : chk b0 b1 l c = true
  · obtain ⟨hm, hn, hr, he, hc⟩ := chk_of h1
    simp only [h1, if_true, ref07_Mark_eq, ref08_within_eq, Option.bind_some]
    by_cases h2 : isMk p0 p1 = true
    · obtain ⟨q0, q1, -, -, -⟩ := isMk_of h2
      simp only [h2, if_true, true_and]
      by_cases h3 : 0 ≤ cm ∧ cm ≤ 1000000
      · refine Ev.pos (show (decide (0 ≤ cm) && decide (cm ≤ 1000000)) = true by simp; omega) ?_
        refine Ev.bind (ref08_Rows_ev es (by omega) p1) ?_
        by_cases h4 : rows es p1 = true
        · simp only [h4, if_true, h3, and_self]
          refine Ev.succ ?_
          simp only [rialtoref08_Accept.j0, Bool.not_true, Bool.false_eq_true, if_false]
          rw [ref08_Copy_eq b0 b1 l c hl]
          refine Ev.bind (Ev.now _) ?_
          have rest : (p0 + 0 ≤ b0 + l.length ∨ p0 + 0 < b0) → Ev (fun k => rialtoref08_Accept.j1 k es cm b0 b1 l c p0 p1 b0 b1 l c) (accRest b0 b1 l c p0 es cm) := by
            intro g
            refine Ev.succ ?_
            simp only [rialtoref08_Accept.j1]
            rw [accRest_eq, w64 (p0 + (es.length : Int)) (by omega) (by omega)]
            exact ref_l0 b0 b1 l c p0 p1 es cm h1 ⟨q0, q1⟩ hes es.length 0 (by omega) (by simpa using g)
          by_cases h5 : p0 ≥ b0
          · refine Ev.pos h5 (Ev.bind (ref08_TermAt_ev b0 b1 l c p0 hl) ?_)
            by_cases h6 : (termAt b0 b1 l c p0).2 = true
            · refine Ev.pos h6 ?_
              by_cases h7 : (termAt b0 b1 l c p0).1 = p1
              · have := termAt_end h6
                exact Ev.eqv (Ev.pos h7 (rest (by omega))) (if_neg (fun g => g.2 ⟨h6, h7⟩)).symm
              · exact Ev.eqv (Ev.neg h7 (Ev.now _)) (if_pos ⟨h5, fun g => h7 g.2⟩).symm
            · exact Ev.eqv (Ev.neg h6 (Ev.now _)) (if_pos ⟨h5, fun g => h6 g.1⟩).symm
          · exact Ev.eqv (Ev.neg h5 (rest (by omega))) (if_neg (fun g => h5 g.1)).symm
        · simp only [Bool.eq_false_iff.mpr h4, Bool.false_eq_true, if_false, and_false]
          exact no
      · exact Ev.eqv (Ev.neg (show ¬ (decide (0 ≤ cm) && decide (cm ≤ 1000000)) = true by simp; omega) no) (if_neg (fun g => h3 g.1)).symm
    · simp only [Bool.eq_false_iff.mpr h2, Bool.false_eq_true, if_false, false_and]
      exact no
  · simp only [Bool.eq_false_iff.mpr h1, Bool.false_eq_true, if_false]
    exact Ev.neg (by omega) (Ev.now _)
end
theorem acc_len (b0 b1 : Int) (l : List S33) (c p0 p1 : Int) (es : List S33) (cm : Int) (hl : l.length < 4398046511104) : (acc b0 b1 l c p0 p1 es cm).2.2.1.length < 4398046511104 := by
  unfold acc
  split
  · split
    · split
      · exact hl
      · unfold accRest
        split
        · simp
        · unfold fin
          split
          · split
            · simp
            · rename_i h; dsimp only; omega
          · simp
    · simp
  · simp

end Go.Proofs.Ytiebeiloooblpaa.Pure
end
section
namespace Go.Proofs.Ytiebeiloooblpaa.Pure
open Go.RowKit Go.Proofs.Ytiebeiloooblpaa.E Go.Proofs.YtiebeiloooblpaaW.PrintWords Go.Proofs.YtiebeiloooblpaaW.PrintLast Go.Proofs.YtiebeiloooblpaaW.PrintMore Go.Proofs.YtiebeiloooblpaaEV
theorem EntriesAccept : rialtolaw08_EntriesAccept.Pure := by
  intro b0 b1 l c p0 p1 es cm hb0 hb1 hl hc hp0 hp1 hes hcm
  have hn : l.length < 4398046511104 := by have := hl.1; omega
  have hm : es.length ≤ 4398046510000 := by have := hes.1; omega
  refine Ev.rounds ?_
  unfold rialtolaw08_EntriesAccept.f
  rw [ref08_Copy_eq b0 b1 l c hn]
  refine Ev.bind (Ev.now _) (Ev.pos (by simp; omega) (Ev.bind (Ev.now _) ?_))
  rw [List.nil_append]
  refine Ev.bind (entries_Accept_ev b0 b1 l c p0 p1 es cm hn hm) (Ev.bind (ref08_Accept_ev b0 b1 l c p0 p1 es cm hn hm) ?_)
  have hlen := acc_len b0 b1 l c p0 p1 es cm hn
  refine Ev.bind (ref08_Same_ev _ _ _ _ hlen) (Ev.pos rfl (Ev.pos rfl (Ev.neg (by simp) (Ev.pos rfl (Ev.bind (ref08_Same_ev b0 b1 l c hn) (Ev.pos rfl (Ev.bind (ref08_SameEntries_ev es (by omega)) (Ev.succ ?_))))))))
  simp only [rialtolaw08_EntriesAccept.j0]
  obtain ⟨q, hq⟩ := spoil_ev _ hlen
  exact Ev.neg (by simp) (Ev.bind hq (Ev.bind (ref08_Same_ev b0 b1 l c hn) (Ev.pos rfl (Ev.bind (ref08_SameEntries_ev es (by omega)) (Ev.pos rfl (Ev.bind live8_ev (Ev.now _)))))))

end Go.Proofs.Ytiebeiloooblpaa.Pure
end
section
/- Helper lemmas of this session: an argument that reads as data, opened to plain values, whatever its type's depth; and what its size says. -/
namespace Go.Proofs.YtiebeiloooblpaaO
open Go.RowKit Go.Proofs.YtiebeiloooblpaaW.PrintWords Go.Deep

/-- What a bound on a reading says of its slices' lengths (S) and its strings' (T), at every depth. -/
structure Sizes (P : Program) (Bd : (H : Type) → TypeId → DataW H → Prop) (S : TypeId → Nat → Prop) (T : Nat → Prop) : Prop where
  slice : ∀ (H : Type) (t e : TypeId) (es sp : List (DataW H)), P.underlying t = some (.slice e) → Bd H t (.slice es sp) → S e es.length ∧ ∀ d ∈ es, Bd H e d
  zero : ∀ e, S e 0
  string : ∀ (H : Type) (t : TypeId) (bs : List UInt8), Bd H t (.lit (.string bs)) → T bs.length
  struct : ∀ (H : Type) (t : TypeId) (fs : Array Field) (ps : List (DataW H)), P.underlying t = some (.struct fs) → Bd H t (.agg ps) → ∀ (i : Nat) (f : Field) (p : DataW H), fs[i]? = some f → ps[i]? = some p → Bd H f.type p

/-- Values of type t read as d's; G: what is known of them. -/
structure Opens {α : Type} (P : Program) (Bd : (H : Type) → TypeId → DataW H → Prop) (t : TypeId) (d : Kd α) (G : α → Prop) : Prop where
  go : ∀ (H : Type) (enc : TypeId × Value → H) (w : World) (base : Nat) (spare : Nat → Bool) (held : Bool) (fuel : Nat) (cs : List Value) (x : DataW H × List MemPlace),
    DataW.trod enc P w base spare held fuel t cs = some x → Bd H t x.1 → ∃ v, d.K w v cs ∧ G v

theorem add_add' (a : Addr) (i j : Nat) : (a.add i).add j = a.add (i + j) := by
  unfold Addr.add
  by_cases h1 : i = 0 <;> by_cases h2 : j = 0 <;> simp [h1, h2, Nat.add_assoc]
theorem listOf {α : Type} {Q : Nat → α → Prop} : ∀ n, (∀ i, i < n → ∃ v, Q i v) → ∃ xs : List α, xs.length = n ∧ ∀ i p, xs[i]? = some p → Q i p
  | 0, _ => ⟨[], rfl, fun i p h => by simp at h⟩
  | n + 1, h => by
    obtain ⟨xs, hl, hx⟩ := listOf n (fun i hi => h i (by omega))
    obtain ⟨v, hv⟩ := h n (Nat.lt_succ_self n)
    refine ⟨xs ++ [v], by simp [hl], fun i p hp => ?_⟩
    rcases Nat.lt_or_ge i xs.length with hi | hi
    · rw [List.getElem?_append_left hi] at hp
      exact hx i p hp
    · have hlt := (List.getElem?_eq_some_iff.1 hp).1
      rw [List.length_append, List.length_singleton] at hlt
      obtain rfl : i = n := by omega
      rw [List.getElem?_append_right hi] at hp
      simp [hl] at hp
      subst hp
      exact hv

section
variable {P : Program} {Bd : (H : Type) → TypeId → DataW H → Prop} {S : TypeId → Nat → Prop} {T : Nat → Prop}

theorem Opens.int {t : TypeId} {k : IntKind} (ht : P.underlying t = some (.int k)) : Opens P Bd t (Kd.int k) (fun n => (Lit.int k n).wf = true) where
  go H enc w base spare held fuel cs x h hb := by
    obtain ⟨n, rfl, _, hw⟩ := DataW.trod_int ht h
    exact ⟨n, rfl, hw⟩
theorem Opens.string (Z : Sizes P Bd S T) {t : TypeId} (ht : P.underlying t = some .string) : Opens P Bd t Kd.string (fun s => T s.size) where
  go H enc w base spare held fuel cs x h hb := by
    obtain ⟨s, rfl, rfl, _⟩ := DataW.trod_string ht h
    have h1 := Z.string H t _ hb
    rw [Array.length_toList] at h1
    exact ⟨s, rfl, h1⟩
theorem Opens.iso {α β : Type} {d : Kd α} {G : α → Prop} {t : TypeId} (f : β → α) (g : α → β) (hfg : ∀ y, f (g y) = y) (O : Opens P Bd t d G) : Opens P Bd t (Kd.iso d f) (fun x => G (f x)) where
  go H enc w base spare held fuel cs x h hb := by
    obtain ⟨v, hK, hG⟩ := O.go H enc w base spare held fuel cs x h hb
    exact ⟨g v, by show d.K w (f (g v)) cs; rw [hfg]; exact hK, by show G (f (g v)); rw [hfg]; exact hG⟩
theorem Opens.bool {t : TypeId} (ht : P.underlying t = some .bool) : Opens P Bd t Kd.bool (fun _ => True) where
  go H enc w base spare held fuel cs x h hb := by
    cases fuel with
    | zero => simp [DataW.trod] at h
    | succ n =>
      unfold DataW.trod at h
      rw [ht] at h
      split at h <;> first | exact ⟨_, rfl, trivial⟩ | simp_all
theorem Opens.slice (Z : Sizes P Bd S T) {α : Type} {d : Kd α} {G : α → Prop} {t e : TypeId} {S' : Nat → Prop} (hS : ∀ n, S e n → S' n) (ht : P.underlying t = some (.slice e)) (hs : P.cellsOf e = d.sz) (O : Opens P Bd e d G) :
    Opens P Bd t (Kd.slice e d) (fun xs => S' xs.length ∧ ∀ x ∈ xs, G x) where
  go H enc w base spare held fuel cs x h hb := by
    rcases open_slice ht h with ⟨rfl, rfl⟩ | ⟨a, len, cap, m, n, D, Pl, rfl, _, hl, hm, hmm, rfl, hi⟩
    · exact ⟨[], ⟨none, 0, rfl, Nat.le_refl _, Kd.C_nil d w⟩, hS _ (Z.zero e), fun x h => by cases h⟩
    · have hlm : len ≤ m := by rw [hmm]; split <;> omega
      obtain ⟨h1, h2⟩ := Z.slice H t e _ _ ht hb
      rw [List.length_map, List.length_range] at h1
      replace h1 := hS _ h1
      have hel : ∀ i, i < len → ∃ v cs', d.K w v cs' ∧ G v ∧ (∀ j u, cs'[j]? = some u → w.cell? (a.add (i * d.sz + j)) = some u) := by
        intro i hil
        obtain ⟨cs', hc, htr⟩ := hi i (by omega)
        rw [hs] at hc
        obtain ⟨_, hcl, hat⟩ := World.cells?_some hc
        obtain ⟨v, hK, hG⟩ := O.go H enc w base spare held n cs' _ htr (h2 _ (List.mem_map.2 ⟨i, List.mem_range.2 hil, rfl⟩))
        refine ⟨v, cs', hK, hG, fun j u hu => ?_⟩
        have hj : j < d.sz := by rw [← hcl]; exact (List.getElem?_eq_some_iff.1 hu).1
        rw [← add_add', hat j hj, hu]
      obtain ⟨xs, hxl, hx⟩ := listOf len hel
      refine ⟨xs, ⟨some a, cap, by rw [hxl], by rw [hxl]; exact hl, ⟨rfl, by rw [hxl]; simp only [maxLen] at hm; omega, fun hp => ⟨a, rfl, fun j p hj => ?_⟩⟩⟩, by rw [hxl]; exact h1, fun x hxm => ?_⟩
      · obtain ⟨cs', hK, _, hc⟩ := hx j p hj
        exact ⟨cs', d.K_len hK, hK, hc⟩
      · obtain ⟨i, hi⟩ := List.mem_iff_getElem?.1 hxm
        obtain ⟨_, _, hG, _⟩ := hx i x hi
        exact hG

/-- The fields of a struct, from one on. -/
structure OpensFs {α : Type} (P : Program) (Bd : (H : Type) → TypeId → DataW H → Prop) (fs : List Field) (off : Nat) (d : Kd α) (G : α → Prop) : Prop where
  go : ∀ (H : Type) (enc : TypeId × Value → H) (w : World) (base : Nat) (spare : Nat → Bool) (held : Bool) (n : Nat) (cs : List Value) (xs : List (DataW H × List MemPlace)),
    xs.length = fs.length → (∀ (i : Nat) (f : Field), fs[i]? = some f → DataW.trod enc P w base spare held n f.type ((cs.drop f.offset).take (P.cellsOf f.type)) = xs[i]?) → cs.length = off + d.sz →
    (∀ (i : Nat) (f : Field) (p : DataW H × List MemPlace), fs[i]? = some f → xs[i]? = some p → Bd H f.type p.1) → ∃ v, d.K w v (cs.drop off) ∧ G v
theorem OpensFs.one {α : Type} {d : Kd α} {G : α → Prop} {f : Field} {off : Nat} (ho : f.offset = off) (hs : P.cellsOf f.type = d.sz) (O : Opens P Bd f.type d G) : OpensFs P Bd [f] off d G where
  go H enc w base spare held n cs xs hl ht hc hb := by
    obtain ⟨x, rfl⟩ : ∃ x, xs = [x] := List.length_eq_one_iff.1 hl
    have h1 := ht 0 f rfl
    have h2 := hb 0 f x rfl rfl
    rw [ho, hs, List.take_of_length_le (by rw [List.length_drop]; omega)] at h1
    exact O.go H enc w base spare held n _ x (by simpa using h1) h2
theorem OpensFs.cons {α β : Type} {a : Kd α} {b : Kd β} {G : α → Prop} {G' : β → Prop} {f : Field} {fs : List Field} {off : Nat} (ho : f.offset = off) (hs : P.cellsOf f.type = a.sz) (O : Opens P Bd f.type a G)
    (O' : OpensFs P Bd fs (off + a.sz) b G') : OpensFs P Bd (f :: fs) off (Kd.pair a b) (fun v => G v.1 ∧ G' v.2) where
  go H enc w base spare held n cs xs hl ht hc hb := by
    obtain ⟨x, xs, rfl⟩ : ∃ x r, xs = x :: r := by
      cases xs with
      | nil => simp at hl
      | cons x r => exact ⟨x, r, rfl⟩
    have h1 := ht 0 f rfl
    have h2 := hb 0 f x rfl rfl
    rw [ho, hs] at h1
    have hsz : (Kd.pair a b).sz = a.sz + b.sz := rfl
    obtain ⟨v, hv, hg⟩ := O.go H enc w base spare held n _ x (by simpa using h1) h2
    obtain ⟨u, hu, hg'⟩ := O'.go H enc w base spare held n cs xs (by simpa using hl) (fun i f' hf => by simpa using ht (i + 1) f' (by simpa using hf)) (by rw [hc, hsz]; omega) (fun i f' p hf hp => hb (i + 1) f' p (by simpa using hf) (by simpa using hp))
    refine ⟨(v, u), ⟨_, _, ?_, hv, hu⟩, hg, hg'⟩
    rw [← List.drop_drop, List.take_append_drop]
theorem Opens.struct (Z : Sizes P Bd S T) {α : Type} {d : Kd α} {G : α → Prop} {t : TypeId} {fs : Array Field} (ht : P.underlying t = some (.struct fs)) (hs : P.cellsOf t = d.sz) (O : OpensFs P Bd fs.toList 0 d G) : Opens P Bd t d G where
  go H enc w base spare held fuel cs x h hb := by
    obtain ⟨xs, n, _, rfl, hlen, hxl, hf⟩ := DataW.trod_struct ht h
    have h1 := O.go H enc w base spare held n cs xs (by simpa using hxl) (fun i f hi => hf i f (by simpa using hi)) (by rw [hlen, hs]; omega) (fun i f p hi hp => Z.struct H t fs _ ht hb i f p.1 (by simpa using hi) (by rw [List.getElem?_map, hp]; rfl))
    simpa using h1

end

/-- By the second form's bulk. -/
def BdBulk (H : Type) (_ : TypeId) (d : DataW H) : Prop := Go.Proofs.Ytiebeiloooblpaa.Rows.uptoBulk d ≤ 1048576
theorem bulk_one_le {H : Type} (d : DataW H) : 1 ≤ Go.Proofs.Ytiebeiloooblpaa.Rows.uptoBulk d := by
  cases d with
  | lit l => cases l <;> simp [Go.Proofs.Ytiebeiloooblpaa.Rows.uptoBulk]
  | nil => simp [Go.Proofs.Ytiebeiloooblpaa.Rows.uptoBulk]
  | ptr d => simp [Go.Proofs.Ytiebeiloooblpaa.Rows.uptoBulk]
  | slice elems spare => simp [Go.Proofs.Ytiebeiloooblpaa.Rows.uptoBulk]
  | agg parts => simp [Go.Proofs.Ytiebeiloooblpaa.Rows.uptoBulk]
  | iface t d => simp [Go.Proofs.Ytiebeiloooblpaa.Rows.uptoBulk]
  | map entries => simp [Go.Proofs.Ytiebeiloooblpaa.Rows.uptoBulk]
  | held h => simp [Go.Proofs.Ytiebeiloooblpaa.Rows.uptoBulk]
theorem bulk_part_le {H : Type} {d : DataW H} {l : List (DataW H)} (h : d ∈ l) : Go.Proofs.Ytiebeiloooblpaa.Rows.uptoBulk d ≤ Go.Proofs.Ytiebeiloooblpaa.Rows.uptoBulkAll l := by
  induction l with
  | nil => cases h
  | cons x r ih =>
    simp only [Go.Proofs.Ytiebeiloooblpaa.Rows.uptoBulkAll]
    cases List.mem_cons.1 h with
    | inl e => subst e; omega
    | inr e => have := ih e; omega
theorem bulk_length_le {H : Type} (l : List (DataW H)) : l.length ≤ Go.Proofs.Ytiebeiloooblpaa.Rows.uptoBulkAll l := by
  induction l with
  | nil => simp [Go.Proofs.Ytiebeiloooblpaa.Rows.uptoBulkAll]
  | cons x r ih => have := bulk_one_le x; simp only [Go.Proofs.Ytiebeiloooblpaa.Rows.uptoBulkAll, List.length_cons]; omega
theorem sizesBulk (P : Program) : Sizes P BdBulk (fun _ n => n ≤ 1048576) (fun n => n ≤ 1048576) where
  slice H t e es sp _ h := by
    unfold BdBulk at h
    rw [Go.Proofs.Ytiebeiloooblpaa.Rows.uptoBulk] at h
    have h1 := bulk_length_le es
    exact ⟨by omega, fun d hd => by have := bulk_part_le hd; unfold BdBulk; omega⟩
  zero e := by simp
  string H t bs h := by
    unfold BdBulk at h
    rw [Go.Proofs.Ytiebeiloooblpaa.Rows.uptoBulk] at h
    omega
  struct H t fs ps _ h i f p _ hp := by
    unfold BdBulk at h ⊢
    rw [Go.Proofs.Ytiebeiloooblpaa.Rows.uptoBulk] at h
    have := bulk_part_le (List.mem_of_getElem? hp)
    omega
theorem bulk_bound {H : Type} {l : List (DataW H)} (hk : Go.Proofs.Ytiebeiloooblpaa.Rows.uptoSmall H l = true) : Go.Proofs.Ytiebeiloooblpaa.Rows.uptoBulkAll l ≤ 1048576 := by
  unfold Go.Proofs.Ytiebeiloooblpaa.Rows.uptoSmall at hk
  exact of_decide_eq_true hk
theorem bulk_arg {H : Type} {l : List (DataW H)} (hk : Go.Proofs.Ytiebeiloooblpaa.Rows.uptoSmall H l = true) {d : DataW H} (h : d ∈ l) (t : TypeId) : BdBulk H t d := by
  have h1 := bulk_bound hk
  have h2 := bulk_part_le h
  unfold BdBulk
  omega
end Go.Proofs.YtiebeiloooblpaaO
end
