/- Part 4 of the proof of EntriesKeep: the texts that it needs, put together by a program of this session. -/
import Derived.Lib.Slices
import Derived.WalkMore
import Derived.Test.YtiebeiloooblpaaMEntriesKeep3
section
-- written by myprint.py, a program of this session over the kit's print.py
namespace Go.Proofs.Ytiebeiloooblpaa.E
open Go.Proofs.YtiebeiloooblpaaST
open Go.RowKit Go.Proofs.YtiebeiloooblpaaW.PrintWords Go.Proofs.YtiebeiloooblpaaW.PrintLast Go.Proofs.YtiebeiloooblpaaW.PrintMore
attribute [local go_sem] max2_int min2_int max_two min_two max_three min_three max_four min_four   -- for this text's walks alone
set_option linter.unusedVariables false
set_option linter.unusedSimpArgs false

/-! ### entries_Accept: function 20 -/
mutual
def entries_Accept.j0 : Nat → List (S33) → Int → Int → Int → List (S33) → Int → Int → Int → Int → Int → List (S33) → Int → Option (Int × Int × (List (S33)) × Int × Int × Bool × Int)
  | 0, _, _, _, _, _, _, _, _, _, _, _, _ => none
  | k + 1, x2, x3, x132000, x132001, x132002, x132003, x133000, x133001, x139000, x139001, x139002, x139003 => entries_Accept.l0 k x2 x3 x2 (x2.length : Int) 0 x132000 x132001 x132002 x132003 x133000 x133001 x139000 x139001 x139002 x139003
def entries_Accept.j3 : Nat → List (S33) → Int → Int → Int → List (S33) → Int → Int → Int → Int → Int → List (S33) → Int → Option (Int × Int × (List (S33)) × Int × Int × Bool × Int)
  | 0, _, _, _, _, _, _, _, _, _, _, _, _ => none
  | k + 1, x2, x3, x132000, x132001, x132002, x132003, x133000, x133001, x139000, x139001, x139002, x139003 => (entries_rising.f k x139002 x132001).bind fun t158 => (if t158 = true then (if (x139002.length : Int) > 400 then (some (0, 0, ([] : List (S33)), 0, 0, false, 2)) else ((entries_end.f x139000 x139001 x139002 x139003).bind fun t159 => (if t159 > 1000000 then (some (0, 0, ([] : List (S33)), 0, 0, false, 2)) else (some (x139000, x139001, x139002, mx x132003 (mn x3 (wrap64 (x133000 + (x2.length : Int)))), mx (wrap64 (x133000 + (x2.length : Int))) x132000, true, 0))))) else (some (0, 0, ([] : List (S33)), 0, 0, false, 80)))
def entries_Accept.l0 : Nat → List (S33) → Int → List (S33) → Int → Int → Int → Int → List (S33) → Int → Int → Int → Int → Int → List (S33) → Int → Option (Int × Int × (List (S33)) × Int × Int × Bool × Int)
  | 0, _, _, _, _, _, _, _, _, _, _, _, _, _, _, _ => none
  | k + 1, x2, x3, x70, x71, x72, x132000, x132001, x132002, x132003, x133000, x133001, x139000, x139001, x139002, x139003 => if x72 < x71 then (if 0 ≤ x72 then (if x72 < (x70.length : Int) then (if (wrap64 ((wrap64 (x133000 + 1)) + x72)) ≤ x132000 then (entries_Accept.l0 k x2 x3 x70 x71 (wrap64 (x72 + 1)) x132000 x132001 x132002 x132003 x133000 x133001 x139000 x139001 x139002 x139003) else ((entries_TermAt.f k x132000 x132001 x132002 x132003 (wrap64 ((wrap64 (x133000 + 1)) + x72))).bind fun bt146 => (if bt146.2 = true then (entries_Accept.j2 k x2 x3 x72 (wrap64 ((wrap64 (x133000 + 1)) + x72)) x70 x71 x72 (bt146.1 == ((rd_T33 x70 x72).f0)) x132000 x132001 x132002 x132003 x133000 x133001 x139000 x139001 x139002 x139003) else (entries_Accept.j2 k x2 x3 x72 (wrap64 ((wrap64 (x133000 + 1)) + x72)) x70 x71 x72 false x132000 x132001 x132002 x132003 x133000 x133001 x139000 x139001 x139002 x139003)))) else (none)) else (none)) else (entries_Accept.j3 k x2 x3 x132000 x132001 x132002 x132003 x133000 x133001 x139000 x139001 x139002 x139003)
def entries_Accept.j2 : Nat → List (S33) → Int → Int → Int → List (S33) → Int → Int → Bool → Int → Int → List (S33) → Int → Int → Int → Int → Int → List (S33) → Int → Option (Int × Int × (List (S33)) × Int × Int × Bool × Int)
  | 0, _, _, _, _, _, _, _, _, _, _, _, _, _, _, _, _, _, _ => none
  | k + 1, x2, x3, x15, x17, x70, x71, x72, x99, x132000, x132001, x132002, x132003, x133000, x133001, x139000, x139001, x139002, x139003 => if x99 = true then (entries_Accept.l0 k x2 x3 x70 x71 (wrap64 (x72 + 1)) x132000 x132001 x132002 x132003 x133000 x133001 x139000 x139001 x139002 x139003) else (if x17 ≤ x132003 then (some (0, 0, ([] : List (S33)), 0, 0, false, 80)) else (if 0 ≤ (wrap64 ((wrap64 (x17 - x132000)) - 1)) then (if (wrap64 ((wrap64 (x17 - x132000)) - 1)) ≤ (x139002.length : Int) then ((some (x139002.take ((wrap64 ((wrap64 (x17 - x132000)) - 1)) : Int).toNat : List (S33))).bind fun y148 => (if 0 ≤ x15 then (if x15 ≤ (x2.length : Int) then ((some (x2.drop (x15 : Int).toNat : List (S33))).bind fun y151 => (if y148.length + y151.length < 4398046511104 then (entries_Accept.j3 k x2 x3 x132000 x132001 x132002 x132003 x133000 x133001 x139000 x139001 (y148 ++ y151) x139003) else (none))) else (none)) else (none))) else (none)) else (none)))
end
def entries_Accept.f (k : Nat) (a0_0 : Int) (a0_1 : Int) (l0_2 : List (S33)) (a0_3 : Int) (a1_0 : Int) (a1_1 : Int) (l2 : List (S33)) (a3 : Int) : Option (Int × Int × (List (S33)) × Int × Int × Bool × Int) := (entries_Check.f k a0_0 a0_1 l0_2 a0_3).bind fun t134 => (if t134 = 0 then ((entries_isMark.f a1_0 a1_1).bind fun t135 => (if t135 = true then ((entries_within.f a3 0 1000000).bind fun t136 => (if t136 = true then ((entries_rising.f k l2 a1_1).bind fun t137 => (if t137 = true then ((slicesClone_Entry.f l0_2).bind fun t139 => (if a1_0 ≥ a0_0 then ((entries_TermAt.f k a0_0 a0_1 l0_2 a0_3 a1_0).bind fun bt142 => (if bt142.2 = true then (if bt142.1 = a1_1 then (entries_Accept.j0 k l2 a3 a0_0 a0_1 l0_2 a0_3 a1_0 a1_1 a0_0 a0_1 t139 a0_3) else (some (a0_0, a0_1, t139, a0_3, 0, false, 0))) else (some (a0_0, a0_1, t139, a0_3, 0, false, 0)))) else (entries_Accept.j0 k l2 a3 a0_0 a0_1 l0_2 a0_3 a1_0 a1_1 a0_0 a0_1 t139 a0_3))) else (some (0, 0, ([] : List (S33)), 0, 0, false, 1)))) else (some (0, 0, ([] : List (S33)), 0, 0, false, 1)))) else (some (0, 0, ([] : List (S33)), 0, 0, false, 1)))) else (some (0, 0, ([] : List (S33)), 0, 0, false, 80)))
theorem entries_Accept.mono_l : ∀ k, (∀ y0 y1 y2 y3 y4 y5 y6 y7 y8 y9 y10 y11, LeO (entries_Accept.j0 k y0 y1 y2 y3 y4 y5 y6 y7 y8 y9 y10 y11) (entries_Accept.j0 (k + 1) y0 y1 y2 y3 y4 y5 y6 y7 y8 y9 y10 y11)) ∧ (∀ y0 y1 y2 y3 y4 y5 y6 y7 y8 y9 y10 y11, LeO (entries_Accept.j3 k y0 y1 y2 y3 y4 y5 y6 y7 y8 y9 y10 y11) (entries_Accept.j3 (k + 1) y0 y1 y2 y3 y4 y5 y6 y7 y8 y9 y10 y11)) ∧ (∀ y0 y1 y2 y3 y4 y5 y6 y7 y8 y9 y10 y11 y12 y13 y14, LeO (entries_Accept.l0 k y0 y1 y2 y3 y4 y5 y6 y7 y8 y9 y10 y11 y12 y13 y14) (entries_Accept.l0 (k + 1) y0 y1 y2 y3 y4 y5 y6 y7 y8 y9 y10 y11 y12 y13 y14)) ∧ (∀ y0 y1 y2 y3 y4 y5 y6 y7 y8 y9 y10 y11 y12 y13 y14 y15 y16 y17, LeO (entries_Accept.j2 k y0 y1 y2 y3 y4 y5 y6 y7 y8 y9 y10 y11 y12 y13 y14 y15 y16 y17) (entries_Accept.j2 (k + 1) y0 y1 y2 y3 y4 y5 y6 y7 y8 y9 y10 y11 y12 y13 y14 y15 y16 y17))
  | 0 => ⟨fun _ _ _ _ _ _ _ _ _ _ _ _ r h => by simp [entries_Accept.j0] at h, fun _ _ _ _ _ _ _ _ _ _ _ _ r h => by simp [entries_Accept.j3] at h, fun _ _ _ _ _ _ _ _ _ _ _ _ _ _ _ r h => by simp [entries_Accept.l0] at h, fun _ _ _ _ _ _ _ _ _ _ _ _ _ _ _ _ _ _ r h => by simp [entries_Accept.j2] at h⟩
  | k + 1 => by
    obtain ⟨ih0, ih1, ih2, ih3⟩ := entries_Accept.mono_l k
    refine ⟨?_, ?_, ?_, ?_⟩
    · intro y0 y1 y2 y3 y4 y5 y6 y7 y8 y9 y10 y11
      unfold entries_Accept.j0
      repeat' first
      | (with_reducible exact ih0 _ _ _ _ _ _ _ _ _ _ _ _)
      | (with_reducible exact ih1 _ _ _ _ _ _ _ _ _ _ _ _)
      | (with_reducible exact ih2 _ _ _ _ _ _ _ _ _ _ _ _ _ _ _)
      | (with_reducible exact ih3 _ _ _ _ _ _ _ _ _ _ _ _ _ _ _ _ _ _)
      | (with_reducible exact entries_Check.mono _ _ _ _ _)
      | (with_reducible exact entries_TermAt.mono _ _ _ _ _ _)
      | (with_reducible exact entries_rising.mono _ _ _)
      | (with_reducible exact LeO.refl _)
      | (with_reducible exact LeO.none _)
      | (with_reducible refine LeO.ite ?_ ?_)
      | (with_reducible refine LeO.bind ?_ (fun _ => ?_))
      | exact ih0 _ _ _ _ _ _ _ _ _ _ _ _
      | exact ih1 _ _ _ _ _ _ _ _ _ _ _ _
      | exact ih2 _ _ _ _ _ _ _ _ _ _ _ _ _ _ _
      | exact ih3 _ _ _ _ _ _ _ _ _ _ _ _ _ _ _ _ _ _
      | exact entries_Check.mono _ _ _ _ _
      | exact entries_TermAt.mono _ _ _ _ _ _
      | exact entries_rising.mono _ _ _
      | exact LeO.none _
      | refine LeO.ite ?_ ?_
      | refine LeO.bind ?_ (fun _ => ?_)
    · intro y0 y1 y2 y3 y4 y5 y6 y7 y8 y9 y10 y11
      unfold entries_Accept.j3
      repeat' first
      | (with_reducible exact ih0 _ _ _ _ _ _ _ _ _ _ _ _)
      | (with_reducible exact ih1 _ _ _ _ _ _ _ _ _ _ _ _)
      | (with_reducible exact ih2 _ _ _ _ _ _ _ _ _ _ _ _ _ _ _)
      | (with_reducible exact ih3 _ _ _ _ _ _ _ _ _ _ _ _ _ _ _ _ _ _)
      | (with_reducible exact entries_Check.mono _ _ _ _ _)
      | (with_reducible exact entries_TermAt.mono _ _ _ _ _ _)
      | (with_reducible exact entries_rising.mono _ _ _)
      | (with_reducible exact LeO.refl _)
      | (with_reducible exact LeO.none _)
      | (with_reducible refine LeO.ite ?_ ?_)
      | (with_reducible refine LeO.bind ?_ (fun _ => ?_))
      | exact ih0 _ _ _ _ _ _ _ _ _ _ _ _
      | exact ih1 _ _ _ _ _ _ _ _ _ _ _ _
      | exact ih2 _ _ _ _ _ _ _ _ _ _ _ _ _ _ _
      | exact ih3 _ _ _ _ _ _ _ _ _ _ _ _ _ _ _ _ _ _
      | exact entries_Check.mono _ _ _ _ _
      | exact entries_TermAt.mono _ _ _ _ _ _
      | exact entries_rising.mono _ _ _
      | exact LeO.none _
      | refine LeO.ite ?_ ?_
      | refine LeO.bind ?_ (fun _ => ?_)
    · intro y0 y1 y2 y3 y4 y5 y6 y7 y8 y9 y10 y11 y12 y13 y14
      unfold entries_Accept.l0
      repeat' first
      | (with_reducible exact ih0 _ _ _ _ _ _ _ _ _ _ _ _)
      | (with_reducible exact ih1 _ _ _ _ _ _ _ _ _ _ _ _)
      | (with_reducible exact ih2 _ _ _ _ _ _ _ _ _ _ _ _ _ _ _)
      | (with_reducible exact ih3 _ _ _ _ _ _ _ _ _ _ _ _ _ _ _ _ _ _)
      | (with_reducible exact entries_Check.mono _ _ _ _ _)
      | (with_reducible exact entries_TermAt.mono _ _ _ _ _ _)
      | (with_reducible exact entries_rising.mono _ _ _)
      | (with_reducible exact LeO.refl _)
      | (with_reducible exact LeO.none _)
      | (with_reducible refine LeO.ite ?_ ?_)
      | (with_reducible refine LeO.bind ?_ (fun _ => ?_))
      | exact ih0 _ _ _ _ _ _ _ _ _ _ _ _
      | exact ih1 _ _ _ _ _ _ _ _ _ _ _ _
      | exact ih2 _ _ _ _ _ _ _ _ _ _ _ _ _ _ _
      | exact ih3 _ _ _ _ _ _ _ _ _ _ _ _ _ _ _ _ _ _
      | exact entries_Check.mono _ _ _ _ _
      | exact entries_TermAt.mono _ _ _ _ _ _
      | exact entries_rising.mono _ _ _
      | exact LeO.none _
      | refine LeO.ite ?_ ?_
      | refine LeO.bind ?_ (fun _ => ?_)
    · intro y0 y1 y2 y3 y4 y5 y6 y7 y8 y9 y10 y11 y12 y13 y14 y15 y16 y17
      unfold entries_Accept.j2
      repeat' first
      | (with_reducible exact ih0 _ _ _ _ _ _ _ _ _ _ _ _)
      | (with_reducible exact ih1 _ _ _ _ _ _ _ _ _ _ _ _)
      | (with_reducible exact ih2 _ _ _ _ _ _ _ _ _ _ _ _ _ _ _)
      | (with_reducible exact ih3 _ _ _ _ _ _ _ _ _ _ _ _ _ _ _ _ _ _)
      | (with_reducible exact entries_Check.mono _ _ _ _ _)
      | (with_reducible exact entries_TermAt.mono _ _ _ _ _ _)
      | (with_reducible exact entries_rising.mono _ _ _)
      | (with_reducible exact LeO.refl _)
      | (with_reducible exact LeO.none _)
      | (with_reducible refine LeO.ite ?_ ?_)
      | (with_reducible refine LeO.bind ?_ (fun _ => ?_))
      | exact ih0 _ _ _ _ _ _ _ _ _ _ _ _
      | exact ih1 _ _ _ _ _ _ _ _ _ _ _ _
      | exact ih2 _ _ _ _ _ _ _ _ _ _ _ _ _ _ _
      | exact ih3 _ _ _ _ _ _ _ _ _ _ _ _ _ _ _ _ _ _
      | exact entries_Check.mono _ _ _ _ _
      | exact entries_TermAt.mono _ _ _ _ _ _
      | exact entries_rising.mono _ _ _
      | exact LeO.none _
      | refine LeO.ite ?_ ?_
      | refine LeO.bind ?_ (fun _ => ?_)
theorem entries_Accept.mono : ∀ a0 a1 a2 a3 a4 a5 a6 a7 k, LeO (entries_Accept.f k a0 a1 a2 a3 a4 a5 a6 a7) (entries_Accept.f (k + 1) a0 a1 a2 a3 a4 a5 a6 a7) := by
  intro a0 a1 a2 a3 a4 a5 a6 a7 k
  obtain ⟨ih0, ih1, ih2, ih3⟩ := entries_Accept.mono_l k
  unfold entries_Accept.f
  repeat' first
      | (with_reducible exact ih0 _ _ _ _ _ _ _ _ _ _ _ _)
      | (with_reducible exact ih1 _ _ _ _ _ _ _ _ _ _ _ _)
      | (with_reducible exact ih2 _ _ _ _ _ _ _ _ _ _ _ _ _ _ _)
      | (with_reducible exact ih3 _ _ _ _ _ _ _ _ _ _ _ _ _ _ _ _ _ _)
      | (with_reducible exact entries_Check.mono _ _ _ _ _)
      | (with_reducible exact entries_TermAt.mono _ _ _ _ _ _)
      | (with_reducible exact entries_rising.mono _ _ _)
      | (with_reducible exact LeO.refl _)
      | (with_reducible exact LeO.none _)
      | (with_reducible refine LeO.ite ?_ ?_)
      | (with_reducible refine LeO.bind ?_ (fun _ => ?_))
      | exact ih0 _ _ _ _ _ _ _ _ _ _ _ _
      | exact ih1 _ _ _ _ _ _ _ _ _ _ _ _
      | exact ih2 _ _ _ _ _ _ _ _ _ _ _ _ _ _ _
      | exact ih3 _ _ _ _ _ _ _ _ _ _ _ _ _ _ _ _ _ _
      | exact entries_Check.mono _ _ _ _ _
      | exact entries_TermAt.mono _ _ _ _ _ _
      | exact entries_rising.mono _ _ _
      | exact LeO.none _
      | refine LeO.ite ?_ ?_
      | refine LeO.bind ?_ (fun _ => ?_)
def entries_Accept.T20 : Bool × List (List Nat × List Nat) := (true, [([], []), ([0], [0]), ([], []), ([], []), ([3], [3]), ([4], [4]), ([2, 5], [2, 5]), ([6], [6]), ([1, 7], [1, 7]), ([], []), ([], []), ([9, 10], [9, 10]), ([8, 11], [8, 11]), ([0, 1, 2, 3, 4, 5, 6, 7, 8, 9, 10, 11, 12], []), ([13, 12, 12, 0, 1, 2, 3, 4, 5, 6, 7, 8, 9, 10, 11, 12], [12, 13])])
def entries_Accept.B20 : List Nat := [0, 1, 0, 0, 8, 24, 60, 124, 255, 0, 0, 1536, 4095, 8191, 16383]
theorem entries_Accept.tab20 : rtab .any (opsOf Try.f20 20) = entries_Accept.T20 := by kernel_rfl
theorem entries_Accept.bits20 : waitsOk entries_Accept.T20.2 entries_Accept.B20 = true := by kernel_rfl
def entries_Accept.T28 : Bool × List (List Nat × List Nat) := (true, [([], []), ([], []), ([], []), ([2], [2]), ([3], [3]), ([1, 4], [1, 4]), ([0, 0], [0]), ([5, 6, 0, 1, 2, 3, 4, 5, 6], [5]), ([7, 0, 1, 2, 3, 4, 5, 6, 7], []), ([8, 0, 1, 2, 3, 4, 5, 6, 7, 8], [])])
def entries_Accept.B28 : List Nat := [0, 0, 0, 4, 12, 30, 1, 127, 255, 511]
theorem entries_Accept.tab28 : rtab .any (opsOf Try.f20 28) = entries_Accept.T28 := by kernel_rfl
theorem entries_Accept.bits28 : waitsOk entries_Accept.T28.2 entries_Accept.B28 = true := by kernel_rfl
set_option maxHeartbeats 8000000 in
set_option maxRecDepth 100000 in
theorem entries_Accept.calls (k : Nat) (a0_0 : Int) (a0_1 : Int) (A0_2 : Option Addr) (c0_2 : Nat) (l0_2 : List (S33)) (a0_3 : Int) (a1_0 : Int) (a1_1 : Int) (A2 : Option Addr) (c2 : Nat) (l2 : List (S33)) (a3 : Int) (r1 : Int) (r2 : Int) (r3 : List (S33)) (r4 : Int) (r5 : Int) (r6 : Bool) (r7 : Int) (w : World) (hr0_2 : Kd.C k33 w A0_2 l0_2.length l0_2) (hc0_2 : l0_2.length ≤ c0_2) (hr2 : Kd.C k33 w A2 l2.length l2) (hc2 : l2.length ≤ c2) (h : entries_Accept.f k a0_0 a0_1 l0_2 a0_3 a1_0 a1_1 l2 a3 = some (r1, r2, r3, r4, r5, r6, r7)) :
    Calls Try.prog 20 #[.agg #[.int .i64 a0_0, .int .i64 a0_1, .slice A0_2 l0_2.length c0_2, .int .i64 a0_3], .agg #[.int .i64 a1_0, .int .i64 a1_1], .slice A2 l2.length c2, .int .i64 a3] w fun e w' => ∃ v2_ : Value, e = .returned (.tuple #[.agg #[.int .i64 r1, .int .i64 r2, v2_, .int .i64 r4], .int .i64 r5, .bool r6, .int .i64 r7]) ∧ Kd.R k33 33 w' w.heap.size (fun _ => True) v2_ r3 ∧ Below w.heap.size w w' := by
  have hu26 := Try.underlying26
  have hu23 := Try.underlying23
  have hu33 := Try.underlying33
  have HR0_2 := Aside0.mk hr0_2
  have HC0_2 := Aside0.mk hc0_2
  clear hr0_2 hc0_2
  have HR2 := Aside0.mk hr2
  have HC2 := Aside0.mk hc2
  clear hr2 hc2
  have HB := Aside0.mk (Below.refl w.heap.size w)
  have H : ((entries_Check.f k a0_0 a0_1 l0_2 a0_3).bind fun t134 => (if t134 = 0 then ((entries_isMark.f a1_0 a1_1).bind fun t135 => (if t135 = true then ((entries_within.f a3 0 1000000).bind fun t136 => (if t136 = true then ((entries_rising.f k l2 a1_1).bind fun t137 => (if t137 = true then ((slicesClone_Entry.f l0_2).bind fun t139 => (if a1_0 ≥ a0_0 then ((entries_TermAt.f k a0_0 a0_1 l0_2 a0_3 a1_0).bind fun bt142 => (if bt142.2 = true then (if bt142.1 = a1_1 then (entries_Accept.j0 k l2 a3 a0_0 a0_1 l0_2 a0_3 a1_0 a1_1 a0_0 a0_1 t139 a0_3) else (some (a0_0, a0_1, t139, a0_3, 0, false, 0))) else (some (a0_0, a0_1, t139, a0_3, 0, false, 0)))) else (entries_Accept.j0 k l2 a3 a0_0 a0_1 l0_2 a0_3 a1_0 a1_1 a0_0 a0_1 t139 a0_3))) else (some (0, 0, ([] : List (S33)), 0, 0, false, 1)))) else (some (0, 0, ([] : List (S33)), 0, 0, false, 1)))) else (some (0, 0, ([] : List (S33)), 0, 0, false, 1)))) else (some (0, 0, ([] : List (S33)), 0, 0, false, 80)))) = some (r1, r2, r3, r4, r5, r6, r7) := h
  clear h
  replace H := Option.bind_eq_some_iff.mp H
  obtain ⟨t134, A50, H⟩ := H
  replace H : (if t134 = 0 then ((entries_isMark.f a1_0 a1_1).bind fun t135 => (if t135 = true then ((entries_within.f a3 0 1000000).bind fun t136 => (if t136 = true then ((entries_rising.f k l2 a1_1).bind fun t137 => (if t137 = true then ((slicesClone_Entry.f l0_2).bind fun t139 => (if a1_0 ≥ a0_0 then ((entries_TermAt.f k a0_0 a0_1 l0_2 a0_3 a1_0).bind fun bt142 => (if bt142.2 = true then (if bt142.1 = a1_1 then (entries_Accept.j0 k l2 a3 a0_0 a0_1 l0_2 a0_3 a1_0 a1_1 a0_0 a0_1 t139 a0_3) else (some (a0_0, a0_1, t139, a0_3, 0, false, 0))) else (some (a0_0, a0_1, t139, a0_3, 0, false, 0)))) else (entries_Accept.j0 k l2 a3 a0_0 a0_1 l0_2 a0_3 a1_0 a1_1 a0_0 a0_1 t139 a0_3))) else (some (0, 0, ([] : List (S33)), 0, 0, false, 1)))) else (some (0, 0, ([] : List (S33)), 0, 0, false, 1)))) else (some (0, 0, ([] : List (S33)), 0, 0, false, 1)))) else (some (0, 0, ([] : List (S33)), 0, 0, false, 80))) = some (r1, r2, r3, r4, r5, r6, r7) := H
  have A5 := Aside0.mk A50
  clear A50
  by_cases c6 : t134 = 0
  · rw [if_pos c6] at H
    have c6b0 : (t134 == 0) = true := beq_iff_eq.mpr c6
    have c6b1 : (t134 != 0) = false := bne_eq_false_iff_eq.mpr c6
    clear c6
    replace H := Option.bind_eq_some_iff.mp H
    obtain ⟨t135, A70, H⟩ := H
    replace H : (if t135 = true then ((entries_within.f a3 0 1000000).bind fun t136 => (if t136 = true then ((entries_rising.f k l2 a1_1).bind fun t137 => (if t137 = true then ((slicesClone_Entry.f l0_2).bind fun t139 => (if a1_0 ≥ a0_0 then ((entries_TermAt.f k a0_0 a0_1 l0_2 a0_3 a1_0).bind fun bt142 => (if bt142.2 = true then (if bt142.1 = a1_1 then (entries_Accept.j0 k l2 a3 a0_0 a0_1 l0_2 a0_3 a1_0 a1_1 a0_0 a0_1 t139 a0_3) else (some (a0_0, a0_1, t139, a0_3, 0, false, 0))) else (some (a0_0, a0_1, t139, a0_3, 0, false, 0)))) else (entries_Accept.j0 k l2 a3 a0_0 a0_1 l0_2 a0_3 a1_0 a1_1 a0_0 a0_1 t139 a0_3))) else (some (0, 0, ([] : List (S33)), 0, 0, false, 1)))) else (some (0, 0, ([] : List (S33)), 0, 0, false, 1)))) else (some (0, 0, ([] : List (S33)), 0, 0, false, 1))) = some (r1, r2, r3, r4, r5, r6, r7) := H
    have A7 := Aside0.mk A70
    clear A70
    by_cases c8 : t135 = true
    · subst c8
      have H1 : ((entries_within.f a3 0 1000000).bind fun t136 => (if t136 = true then ((entries_rising.f k l2 a1_1).bind fun t137 => (if t137 = true then ((slicesClone_Entry.f l0_2).bind fun t139 => (if a1_0 ≥ a0_0 then ((entries_TermAt.f k a0_0 a0_1 l0_2 a0_3 a1_0).bind fun bt142 => (if bt142.2 = true then (if bt142.1 = a1_1 then (entries_Accept.j0 k l2 a3 a0_0 a0_1 l0_2 a0_3 a1_0 a1_1 a0_0 a0_1 t139 a0_3) else (some (a0_0, a0_1, t139, a0_3, 0, false, 0))) else (some (a0_0, a0_1, t139, a0_3, 0, false, 0)))) else (entries_Accept.j0 k l2 a3 a0_0 a0_1 l0_2 a0_3 a1_0 a1_1 a0_0 a0_1 t139 a0_3))) else (some (0, 0, ([] : List (S33)), 0, 0, false, 1)))) else (some (0, 0, ([] : List (S33)), 0, 0, false, 1)))) = some (r1, r2, r3, r4, r5, r6, r7) := by rw [if_pos rfl] at H; exact H
      clear H
      have H := H1
      clear H1
      replace H := Option.bind_eq_some_iff.mp H
      obtain ⟨t136, A90, H⟩ := H
      replace H : (if t136 = true then ((entries_rising.f k l2 a1_1).bind fun t137 => (if t137 = true then ((slicesClone_Entry.f l0_2).bind fun t139 => (if a1_0 ≥ a0_0 then ((entries_TermAt.f k a0_0 a0_1 l0_2 a0_3 a1_0).bind fun bt142 => (if bt142.2 = true then (if bt142.1 = a1_1 then (entries_Accept.j0 k l2 a3 a0_0 a0_1 l0_2 a0_3 a1_0 a1_1 a0_0 a0_1 t139 a0_3) else (some (a0_0, a0_1, t139, a0_3, 0, false, 0))) else (some (a0_0, a0_1, t139, a0_3, 0, false, 0)))) else (entries_Accept.j0 k l2 a3 a0_0 a0_1 l0_2 a0_3 a1_0 a1_1 a0_0 a0_1 t139 a0_3))) else (some (0, 0, ([] : List (S33)), 0, 0, false, 1)))) else (some (0, 0, ([] : List (S33)), 0, 0, false, 1))) = some (r1, r2, r3, r4, r5, r6, r7) := H
      have A9 := Aside0.mk A90
      clear A90
      by_cases c10 : t136 = true
      · subst c10
        have H1 : ((entries_rising.f k l2 a1_1).bind fun t137 => (if t137 = true then ((slicesClone_Entry.f l0_2).bind fun t139 => (if a1_0 ≥ a0_0 then ((entries_TermAt.f k a0_0 a0_1 l0_2 a0_3 a1_0).bind fun bt142 => (if bt142.2 = true then (if bt142.1 = a1_1 then (entries_Accept.j0 k l2 a3 a0_0 a0_1 l0_2 a0_3 a1_0 a1_1 a0_0 a0_1 t139 a0_3) else (some (a0_0, a0_1, t139, a0_3, 0, false, 0))) else (some (a0_0, a0_1, t139, a0_3, 0, false, 0)))) else (entries_Accept.j0 k l2 a3 a0_0 a0_1 l0_2 a0_3 a1_0 a1_1 a0_0 a0_1 t139 a0_3))) else (some (0, 0, ([] : List (S33)), 0, 0, false, 1)))) = some (r1, r2, r3, r4, r5, r6, r7) := by rw [if_pos rfl] at H; exact H
        clear H
        have H := H1
        clear H1
        replace H := Option.bind_eq_some_iff.mp H
        obtain ⟨t137, A110, H⟩ := H
        replace H : (if t137 = true then ((slicesClone_Entry.f l0_2).bind fun t139 => (if a1_0 ≥ a0_0 then ((entries_TermAt.f k a0_0 a0_1 l0_2 a0_3 a1_0).bind fun bt142 => (if bt142.2 = true then (if bt142.1 = a1_1 then (entries_Accept.j0 k l2 a3 a0_0 a0_1 l0_2 a0_3 a1_0 a1_1 a0_0 a0_1 t139 a0_3) else (some (a0_0, a0_1, t139, a0_3, 0, false, 0))) else (some (a0_0, a0_1, t139, a0_3, 0, false, 0)))) else (entries_Accept.j0 k l2 a3 a0_0 a0_1 l0_2 a0_3 a1_0 a1_1 a0_0 a0_1 t139 a0_3))) else (some (0, 0, ([] : List (S33)), 0, 0, false, 1))) = some (r1, r2, r3, r4, r5, r6, r7) := H
        have A11 := Aside0.mk A110
        clear A110
        by_cases c12 : t137 = true
        · subst c12
          have H1 : ((slicesClone_Entry.f l0_2).bind fun t139 => (if a1_0 ≥ a0_0 then ((entries_TermAt.f k a0_0 a0_1 l0_2 a0_3 a1_0).bind fun bt142 => (if bt142.2 = true then (if bt142.1 = a1_1 then (entries_Accept.j0 k l2 a3 a0_0 a0_1 l0_2 a0_3 a1_0 a1_1 a0_0 a0_1 t139 a0_3) else (some (a0_0, a0_1, t139, a0_3, 0, false, 0))) else (some (a0_0, a0_1, t139, a0_3, 0, false, 0)))) else (entries_Accept.j0 k l2 a3 a0_0 a0_1 l0_2 a0_3 a1_0 a1_1 a0_0 a0_1 t139 a0_3))) = some (r1, r2, r3, r4, r5, r6, r7) := by rw [if_pos rfl] at H; exact H
          clear H
          have H := H1
          clear H1
          replace H := Option.bind_eq_some_iff.mp H
          obtain ⟨t139, A130, H⟩ := H
          replace H : (if a1_0 ≥ a0_0 then ((entries_TermAt.f k a0_0 a0_1 l0_2 a0_3 a1_0).bind fun bt142 => (if bt142.2 = true then (if bt142.1 = a1_1 then (entries_Accept.j0 k l2 a3 a0_0 a0_1 l0_2 a0_3 a1_0 a1_1 a0_0 a0_1 t139 a0_3) else (some (a0_0, a0_1, t139, a0_3, 0, false, 0))) else (some (a0_0, a0_1, t139, a0_3, 0, false, 0)))) else (entries_Accept.j0 k l2 a3 a0_0 a0_1 l0_2 a0_3 a1_0 a1_1 a0_0 a0_1 t139 a0_3)) = some (r1, r2, r3, r4, r5, r6, r7) := H
          have A13 := Aside0.mk A130
          clear A130
          have HC14 := Aside0.mk H
          clear H
          go_enter Try.func20, Try.ntmps20
          go_upto_if 53 with (first | go_step3 | (simp only [Exit.noGoto_normal, Exit.noGoto_exit, Exit.noGoto_ret]) | ((with_reducible refine gate_dst (N := 4) rfl ?_); refine box_event ?hg (N := 4) ?hd (cs := #[.int .i64 a0_0, .int .i64 a0_1, .slice A0_2 l0_2.length c0_2, .int .i64 a0_3]) (t := 26) ?hr ?_; (case hd => rfl); (case hg => rfl); (case hr => first | (go_simp; done) | (go_simp; rfl)); intro gb131 hg w15 hbox hb; have n0_ := Aside0.mk (below_step (by repeat (first | (with_reducible first | exact HB.out | apply below_alloc | apply pw_below_drewN | apply below_drew1) | exact HB.out)) hb); have n1_ := Aside0.mk (hbox); have n2_ := Aside0.mk ((by rw [hg]; exact (below_size (by repeat (first | (with_reducible first | exact HB.out | apply below_alloc | apply pw_below_drewN | apply below_drew1) | exact HB.out))) : w.heap.size ≤ gb131)); have n3_ := Aside0.mk ((by rw [hg]; exact (below_size (by repeat (first | (with_reducible first | exact HB.out | apply below_alloc | apply pw_below_drewN | apply below_drew1) | exact HB.out))) : w.heap.size ≤ gb131)); clear HB; have HB := n0_; have BK131 := n1_; have GW131 := n2_; have GE131 := n3_; clear n0_ n1_ n2_ n3_; clear hb hbox hg) | ((with_reducible refine gate_dst (N := 5) rfl ?_); refine box_event ?hg (N := 5) ?hd (cs := #[.int .i64 a1_0, .int .i64 a1_1]) (t := 23) ?hr ?_; (case hd => rfl); (case hg => rfl); (case hr => first | (go_simp; done) | (go_simp; rfl)); intro gb132 hg w16 hbox hb; have n0_ := Aside0.mk (blk_below (g := gb131) (o := .cells #[.int .i64 a0_0, .int .i64 a0_1, .slice A0_2 l0_2.length c0_2, .int .i64 a0_3] 26 (0, 0)) (by (with_reducible repeat (first | refine blk_drewN ?_ _ | refine blk_drew ?_ | refine blk_alloc ?_ _)); exact BK131.out) hb); have n1_ := Aside0.mk (below_step (by repeat (first | (with_reducible first | exact HB.out | apply below_alloc | apply pw_below_drewN | apply below_drew1 | refine below_set ?_ GE131.out) | exact HB.out)) hb); have n2_ := Aside0.mk (hbox); have n3_ := Aside0.mk ((by rw [hg]; exact (below_size (by repeat (first | (with_reducible first | exact HB.out | apply below_alloc | apply pw_below_drewN | apply below_drew1 | refine below_set ?_ GE131.out) | exact HB.out))) : w.heap.size ≤ gb132)); have n4_ := Aside0.mk ((by rw [hg]; exact (below_size (by repeat (first | (with_reducible first | exact HB.out | apply below_alloc | apply pw_below_drewN | apply below_drew1 | refine below_set ?_ GE131.out) | exact HB.out))) : w.heap.size ≤ gb132)); have n5_ := Aside0.mk ((by rw [hg]; exact Nat.ne_of_lt (blk_lt (g := gb131) (o := .cells #[.int .i64 a0_0, .int .i64 a0_1, .slice A0_2 l0_2.length c0_2, .int .i64 a0_3] 26 (0, 0)) (by (with_reducible repeat (first | refine blk_drewN ?_ _ | refine blk_drew ?_ | refine blk_alloc ?_ _)); exact BK131.out)) : gb131 ≠ gb132)); have n6_ := Aside0.mk ((by rw [hg]; exact Nat.ne_of_gt (blk_lt (g := gb131) (o := .cells #[.int .i64 a0_0, .int .i64 a0_1, .slice A0_2 l0_2.length c0_2, .int .i64 a0_3] 26 (0, 0)) (by (with_reducible repeat (first | refine blk_drewN ?_ _ | refine blk_drew ?_ | refine blk_alloc ?_ _)); exact BK131.out)) : gb132 ≠ gb131)); clear BK131; clear HB; have BK131 := n0_; have HB := n1_; have BK132 := n2_; have GW132 := n3_; have GE132 := n4_; have NB131_132 := n5_; have NB132_131 := n6_; clear n0_ n1_ n2_ n3_ n4_ n5_ n6_; clear hb hbox hg) | ((with_reducible refine gate_dst (N := 8) rfl ?_); refine box_event ?hg (N := 8) ?hd (cs := #[.int .i64 0, .int .i64 0, .slice none 0 0, .int .i64 0]) (t := 26) ?hr ?_; (case hd => rfl); (case hg => rfl); (case hr => first | (go_simp; done) | (go_simp; rfl)); intro gb133 hg w17 hbox hb; have n0_ := Aside0.mk (blk_below (g := gb131) (o := .cells #[.int .i64 a0_0, .int .i64 a0_1, .slice A0_2 l0_2.length c0_2, .int .i64 a0_3] 26 (0, 0)) (by (with_reducible repeat (first | refine blk_drewN ?_ _ | refine blk_drew ?_ | refine blk_alloc ?_ _)); exact BK131.out) hb); have n1_ := Aside0.mk (blk_below (g := gb132) (o := .cells #[.int .i64 a1_0, .int .i64 a1_1] 23 (0, 0)) (by (with_reducible repeat (first | refine blk_drewN ?_ _ | refine blk_drew ?_ | refine blk_alloc ?_ _)); exact BK132.out) hb); have n2_ := Aside0.mk (below_step (by repeat (first | (with_reducible first | exact HB.out | apply below_alloc | apply pw_below_drewN | apply below_drew1 | refine below_set ?_ GE131.out | refine below_set ?_ GE132.out) | exact HB.out)) hb); have n3_ := Aside0.mk (hbox); have n4_ := Aside0.mk ((by rw [hg]; exact (below_size (by repeat (first | (with_reducible first | exact HB.out | apply below_alloc | apply pw_below_drewN | apply below_drew1 | refine below_set ?_ GE131.out | refine below_set ?_ GE132.out) | exact HB.out))) : w.heap.size ≤ gb133)); have n5_ := Aside0.mk ((by rw [hg]; exact (below_size (by repeat (first | (with_reducible first | exact HB.out | apply below_alloc | apply pw_below_drewN | apply below_drew1 | refine below_set ?_ GE131.out | refine below_set ?_ GE132.out) | exact HB.out))) : w.heap.size ≤ gb133)); have n6_ := Aside0.mk ((by rw [hg]; exact Nat.ne_of_lt (blk_lt (g := gb131) (o := .cells #[.int .i64 a0_0, .int .i64 a0_1, .slice A0_2 l0_2.length c0_2, .int .i64 a0_3] 26 (0, 0)) (by (with_reducible repeat (first | refine blk_drewN ?_ _ | refine blk_drew ?_ | refine blk_alloc ?_ _)); exact BK131.out)) : gb131 ≠ gb133)); have n7_ := Aside0.mk ((by rw [hg]; exact Nat.ne_of_gt (blk_lt (g := gb131) (o := .cells #[.int .i64 a0_0, .int .i64 a0_1, .slice A0_2 l0_2.length c0_2, .int .i64 a0_3] 26 (0, 0)) (by (with_reducible repeat (first | refine blk_drewN ?_ _ | refine blk_drew ?_ | refine blk_alloc ?_ _)); exact BK131.out)) : gb133 ≠ gb131)); have n8_ := Aside0.mk ((by rw [hg]; exact Nat.ne_of_lt (blk_lt (g := gb132) (o := .cells #[.int .i64 a1_0, .int .i64 a1_1] 23 (0, 0)) (by (with_reducible repeat (first | refine blk_drewN ?_ _ | refine blk_drew ?_ | refine blk_alloc ?_ _)); exact BK132.out)) : gb132 ≠ gb133)); have n9_ := Aside0.mk ((by rw [hg]; exact Nat.ne_of_gt (blk_lt (g := gb132) (o := .cells #[.int .i64 a1_0, .int .i64 a1_1] 23 (0, 0)) (by (with_reducible repeat (first | refine blk_drewN ?_ _ | refine blk_drew ?_ | refine blk_alloc ?_ _)); exact BK132.out)) : gb133 ≠ gb132)); clear BK131; clear BK132; clear HB; have BK131 := n0_; have BK132 := n1_; have HB := n2_; have BK133 := n3_; have GW133 := n4_; have GE133 := n5_; have NB131_133 := n6_; have NB133_131 := n7_; have NB132_133 := n8_; have NB133_132 := n9_; clear n0_ n1_ n2_ n3_ n4_ n5_ n6_ n7_ n8_ n9_; clear hb hbox hg; have hnb18 := NB131_132.out; have hnc18 := NB132_131.out; have hnb19 := NB131_133.out; have hnc19 := NB133_131.out; have hcz20_0 : w17.cell? ⟨gb131, 0, none⟩ = some (.int .i64 a0_0) := (blk_cell BK131.out 0).trans rfl; have hcz20_1 : w17.cell? ⟨gb131, 1, none⟩ = some (.int .i64 a0_1) := (blk_cell BK131.out 1).trans rfl; have hcz20_2 : w17.cell? ⟨gb131, 2, none⟩ = some (.slice A0_2 l0_2.length c0_2) := (blk_cell BK131.out 2).trans rfl; have hcz20_3 : w17.cell? ⟨gb131, 3, none⟩ = some (.int .i64 a0_3) := (blk_cell BK131.out 3).trans rfl; have hfz20_0 := blk_frozen BK131.out 0; have hfz20_1 := blk_frozen BK131.out 1; have hfz20_2 := blk_frozen BK131.out 2; have hfz20_3 := blk_frozen BK131.out 3) | ((with_reducible refine gate_callee (f := 30) rfl ?_); refine goesL_ (some 23) rfl rfl Try.func30 (by kernel_rfl) rfl #[.agg #[.int .i64 a0_0, .int .i64 a0_1, .slice A0_2 l0_2.length c0_2, .int .i64 a0_3]] rfl (by (try simp only [List.map_toArray, List.map_cons, List.map_nil]); first | done | rfl | (simp only [List.length_drop, List.length_take]; rfl)) ?_; (with_reducible refine (entries_Check.calls k a0_0 a0_1 _ _ l0_2 a0_3 t134 _ ?side1 ?side2 A5.out).mono ?_); (case side1 => repeat (first | exact (Kd.C_below HR0_2.out HB.out) | (with_reducible refine Kd.C_alloc ?_ _) | (with_reducible refine Kd.C_drewN ?_ _) | (with_reducible refine Kd.C_drew ?_))); (case side2 => exact HC0_2.out); rintro e w21 ⟨rfl, hb⟩; refine ⟨_, rfl, ?_⟩; have n0_ := Aside0.mk (blk_below (g := gb131) (o := .cells #[.int .i64 a0_0, .int .i64 a0_1, .slice A0_2 l0_2.length c0_2, .int .i64 a0_3] 26 (0, 0)) (by (with_reducible repeat (first | refine blk_drewN ?_ _ | refine blk_drew ?_ | refine blk_alloc ?_ _)); exact BK131.out) hb); have n1_ := Aside0.mk (blk_below (g := gb132) (o := .cells #[.int .i64 a1_0, .int .i64 a1_1] 23 (0, 0)) (by (with_reducible repeat (first | refine blk_drewN ?_ _ | refine blk_drew ?_ | refine blk_alloc ?_ _)); exact BK132.out) hb); have n2_ := Aside0.mk (blk_below (g := gb133) (o := .cells #[.int .i64 0, .int .i64 0, .slice none 0 0, .int .i64 0] 26 (0, 0)) (by (with_reducible repeat (first | refine blk_drewN ?_ _ | refine blk_drew ?_ | refine blk_alloc ?_ _)); exact BK133.out) hb); have n3_ := Aside0.mk (below_step (by repeat (first | (with_reducible first | exact HB.out | apply below_alloc | apply pw_below_drewN | apply below_drew1 | refine below_set ?_ GE131.out | refine below_set ?_ GE132.out | refine below_set ?_ GE133.out) | exact HB.out)) hb); clear BK131; clear BK132; clear BK133; clear HB; have BK131 := n0_; have BK132 := n1_; have BK133 := n2_; have HB := n3_; clear n0_ n1_ n2_ n3_; (try clear hb); (try clear hb2); (try clear hk); (try clear hi); have hnb22 := NB132_133.out; have hnc22 := NB133_132.out; have hcz23_0 : w21.cell? ⟨gb132, 0, none⟩ = some (.int .i64 a1_0) := (blk_cell BK132.out 0).trans rfl; have hcz23_1 : w21.cell? ⟨gb132, 1, none⟩ = some (.int .i64 a1_1) := (blk_cell BK132.out 1).trans rfl; have hfz23_0 := blk_frozen BK132.out 0; have hfz23_1 := blk_frozen BK132.out 1) | ((with_reducible refine gate_callee (f := 41) rfl ?_); refine goesL_ (some 28) rfl rfl Try.func41 (by kernel_rfl) rfl #[.agg #[.int .i64 a1_0, .int .i64 a1_1]] rfl (by (try simp only [List.map_toArray, List.map_cons, List.map_nil]); first | done | rfl | (simp only [List.length_drop, List.length_take]; rfl)) ?_; (with_reducible refine (entries_isMark.calls a1_0 a1_1 true _ A7.out).mono ?_); rintro e w24 ⟨rfl, hb⟩; refine ⟨_, rfl, ?_⟩; have n0_ := Aside0.mk (blk_below (g := gb131) (o := .cells #[.int .i64 a0_0, .int .i64 a0_1, .slice A0_2 l0_2.length c0_2, .int .i64 a0_3] 26 (0, 0)) (by (with_reducible repeat (first | refine blk_drewN ?_ _ | refine blk_drew ?_ | refine blk_alloc ?_ _)); exact BK131.out) hb); have n1_ := Aside0.mk (blk_below (g := gb132) (o := .cells #[.int .i64 a1_0, .int .i64 a1_1] 23 (0, 0)) (by (with_reducible repeat (first | refine blk_drewN ?_ _ | refine blk_drew ?_ | refine blk_alloc ?_ _)); exact BK132.out) hb); have n2_ := Aside0.mk (blk_below (g := gb133) (o := .cells #[.int .i64 0, .int .i64 0, .slice none 0 0, .int .i64 0] 26 (0, 0)) (by (with_reducible repeat (first | refine blk_drewN ?_ _ | refine blk_drew ?_ | refine blk_alloc ?_ _)); exact BK133.out) hb); have n3_ := Aside0.mk (below_step (by repeat (first | (with_reducible first | exact HB.out | apply below_alloc | apply pw_below_drewN | apply below_drew1 | refine below_set ?_ GE131.out | refine below_set ?_ GE132.out | refine below_set ?_ GE133.out) | exact HB.out)) hb); clear BK131; clear BK132; clear BK133; clear HB; have BK131 := n0_; have BK132 := n1_; have BK133 := n2_; have HB := n3_; clear n0_ n1_ n2_ n3_; (try clear hb); (try clear hb2); (try clear hk); (try clear hi)) | (go_at_call 42; (with_reducible refine (entries_within.calls a3 0 1000000 true _ A9.out).mono ?_); rintro e w' ⟨rfl, ⟨nd, rfl⟩⟩; (try (rw [drewN_self w24]; generalize hq_ : World.drewN w24 _ = w24; have n0_ : Aside0 (w24.heap[gb131]? = some (.cells #[.int .i64 a0_0, .int .i64 a0_1, .slice A0_2 l0_2.length c0_2, .int .i64 a0_3] 26 (0, 0))) := ⟨by rw [← hq_]; exact (by (with_reducible repeat (first | refine blk_drewN ?_ _ | refine blk_drew ?_ | refine blk_alloc ?_ _)); exact BK131.out)⟩; have n1_ : Aside0 (w24.heap[gb132]? = some (.cells #[.int .i64 a1_0, .int .i64 a1_1] 23 (0, 0))) := ⟨by rw [← hq_]; exact (by (with_reducible repeat (first | refine blk_drewN ?_ _ | refine blk_drew ?_ | refine blk_alloc ?_ _)); exact BK132.out)⟩; have n2_ : Aside0 (w24.heap[gb133]? = some (.cells #[.int .i64 0, .int .i64 0, .slice none 0 0, .int .i64 0] 26 (0, 0))) := ⟨by rw [← hq_]; exact (by (with_reducible repeat (first | refine blk_drewN ?_ _ | refine blk_drew ?_ | refine blk_alloc ?_ _)); exact BK133.out)⟩; have n3_ : Aside0 (Below w.heap.size w w24) := ⟨by rw [← hq_]; exact (by repeat (first | (with_reducible first | exact HB.out | apply below_alloc | apply pw_below_drewN | apply below_drew1 | refine below_set ?_ GE131.out | refine below_set ?_ GE132.out | refine below_set ?_ GE133.out) | exact HB.out))⟩; clear BK131 BK132 BK133 HB hq_; have BK131 := n0_; have BK132 := n1_; have BK133 := n2_; have HB := n3_; clear n0_ n1_ n2_ n3_)); have hcz25_0 : w24.cell? ⟨gb132, 0, none⟩ = some (.int .i64 a1_0) := (blk_cell BK132.out 0).trans rfl; have hcz25_1 : w24.cell? ⟨gb132, 1, none⟩ = some (.int .i64 a1_1) := (blk_cell BK132.out 1).trans rfl; have hfz25_0 := blk_frozen BK132.out 0; have hfz25_1 := blk_frozen BK132.out 1) | (go_at_call 43; (with_reducible refine (entries_rising.calls k _ _ l2 a1_1 true _ ?side1 ?side2 A11.out).mono ?_); (case side1 => repeat (first | exact (Kd.C_below HR2.out HB.out) | (with_reducible refine Kd.C_alloc ?_ _) | (with_reducible refine Kd.C_drewN ?_ _) | (with_reducible refine Kd.C_drew ?_))); (case side2 => exact HC2.out); rintro e w26 ⟨rfl, hb⟩; have n0_ := Aside0.mk (blk_below (g := gb131) (o := .cells #[.int .i64 a0_0, .int .i64 a0_1, .slice A0_2 l0_2.length c0_2, .int .i64 a0_3] 26 (0, 0)) (by (with_reducible repeat (first | refine blk_drewN ?_ _ | refine blk_drew ?_ | refine blk_alloc ?_ _)); exact BK131.out) hb); have n1_ := Aside0.mk (blk_below (g := gb132) (o := .cells #[.int .i64 a1_0, .int .i64 a1_1] 23 (0, 0)) (by (with_reducible repeat (first | refine blk_drewN ?_ _ | refine blk_drew ?_ | refine blk_alloc ?_ _)); exact BK132.out) hb); have n2_ := Aside0.mk (blk_below (g := gb133) (o := .cells #[.int .i64 0, .int .i64 0, .slice none 0 0, .int .i64 0] 26 (0, 0)) (by (with_reducible repeat (first | refine blk_drewN ?_ _ | refine blk_drew ?_ | refine blk_alloc ?_ _)); exact BK133.out) hb); have n3_ := Aside0.mk (below_step (by repeat (first | (with_reducible first | exact HB.out | apply below_alloc | apply pw_below_drewN | apply below_drew1 | refine below_set ?_ GE131.out | refine below_set ?_ GE132.out | refine below_set ?_ GE133.out) | exact HB.out)) hb); clear BK131; clear BK132; clear BK133; clear HB; have BK131 := n0_; have BK132 := n1_; have BK133 := n2_; have HB := n3_; clear n0_ n1_ n2_ n3_; (try clear hb); (try clear hb2); (try clear hk); (try clear hi); have hcz27_0 : w26.cell? ⟨gb131, 0, none⟩ = some (.int .i64 a0_0) := (blk_cell BK131.out 0).trans rfl; have hcz27_1 : w26.cell? ⟨gb131, 1, none⟩ = some (.int .i64 a0_1) := (blk_cell BK131.out 1).trans rfl; have hcz27_2 : w26.cell? ⟨gb131, 2, none⟩ = some (.slice A0_2 l0_2.length c0_2) := (blk_cell BK131.out 2).trans rfl; have hcz27_3 : w26.cell? ⟨gb131, 3, none⟩ = some (.int .i64 a0_3) := (blk_cell BK131.out 3).trans rfl; have hfz27_0 := blk_frozen BK131.out 0; have hfz27_1 := blk_frozen BK131.out 1; have hfz27_2 := blk_frozen BK131.out 2; have hfz27_3 := blk_frozen BK131.out 3) | ((with_reducible refine gate_dst (N := 12) rfl ?_); refine box_event ?hg (N := 12) ?hd (cs := #[.int .i64 0, .int .i64 0, .slice none 0 0, .int .i64 0]) (t := 26) ?hr ?_; (case hd => rfl); (case hg => rfl); (case hr => first | (go_simp; done) | (go_simp; rfl)); intro gb138 hg w28 hbox hb; have n0_ := Aside0.mk (blk_below (g := gb131) (o := .cells #[.int .i64 a0_0, .int .i64 a0_1, .slice A0_2 l0_2.length c0_2, .int .i64 a0_3] 26 (0, 0)) (by (with_reducible repeat (first | refine blk_drewN ?_ _ | refine blk_drew ?_ | refine blk_alloc ?_ _)); exact BK131.out) hb); have n1_ := Aside0.mk (blk_below (g := gb132) (o := .cells #[.int .i64 a1_0, .int .i64 a1_1] 23 (0, 0)) (by (with_reducible repeat (first | refine blk_drewN ?_ _ | refine blk_drew ?_ | refine blk_alloc ?_ _)); exact BK132.out) hb); have n2_ := Aside0.mk (blk_below (g := gb133) (o := .cells #[.int .i64 0, .int .i64 0, .slice none 0 0, .int .i64 0] 26 (0, 0)) (by (with_reducible repeat (first | refine blk_drewN ?_ _ | refine blk_drew ?_ | refine blk_alloc ?_ _)); exact BK133.out) hb); have n3_ := Aside0.mk (below_step (by repeat (first | (with_reducible first | exact HB.out | apply below_alloc | apply pw_below_drewN | apply below_drew1 | refine below_set ?_ GE131.out | refine below_set ?_ GE132.out | refine below_set ?_ GE133.out) | exact HB.out)) hb); have n4_ := Aside0.mk (hbox); have n5_ := Aside0.mk ((by rw [hg]; exact (below_size (by repeat (first | (with_reducible first | exact HB.out | apply below_alloc | apply pw_below_drewN | apply below_drew1 | refine below_set ?_ GE131.out | refine below_set ?_ GE132.out | refine below_set ?_ GE133.out) | exact HB.out))) : w.heap.size ≤ gb138)); have n6_ := Aside0.mk ((by rw [hg]; exact (below_size (by repeat (first | (with_reducible first | exact HB.out | apply below_alloc | apply pw_below_drewN | apply below_drew1 | refine below_set ?_ GE131.out | refine below_set ?_ GE132.out | refine below_set ?_ GE133.out) | exact HB.out))) : w.heap.size ≤ gb138)); have n7_ := Aside0.mk ((by rw [hg]; exact Nat.ne_of_lt (blk_lt (g := gb131) (o := .cells #[.int .i64 a0_0, .int .i64 a0_1, .slice A0_2 l0_2.length c0_2, .int .i64 a0_3] 26 (0, 0)) (by (with_reducible repeat (first | refine blk_drewN ?_ _ | refine blk_drew ?_ | refine blk_alloc ?_ _)); exact BK131.out)) : gb131 ≠ gb138)); have n8_ := Aside0.mk ((by rw [hg]; exact Nat.ne_of_gt (blk_lt (g := gb131) (o := .cells #[.int .i64 a0_0, .int .i64 a0_1, .slice A0_2 l0_2.length c0_2, .int .i64 a0_3] 26 (0, 0)) (by (with_reducible repeat (first | refine blk_drewN ?_ _ | refine blk_drew ?_ | refine blk_alloc ?_ _)); exact BK131.out)) : gb138 ≠ gb131)); have n9_ := Aside0.mk ((by rw [hg]; exact Nat.ne_of_lt (blk_lt (g := gb132) (o := .cells #[.int .i64 a1_0, .int .i64 a1_1] 23 (0, 0)) (by (with_reducible repeat (first | refine blk_drewN ?_ _ | refine blk_drew ?_ | refine blk_alloc ?_ _)); exact BK132.out)) : gb132 ≠ gb138)); have n10_ := Aside0.mk ((by rw [hg]; exact Nat.ne_of_gt (blk_lt (g := gb132) (o := .cells #[.int .i64 a1_0, .int .i64 a1_1] 23 (0, 0)) (by (with_reducible repeat (first | refine blk_drewN ?_ _ | refine blk_drew ?_ | refine blk_alloc ?_ _)); exact BK132.out)) : gb138 ≠ gb132)); have n11_ := Aside0.mk ((by rw [hg]; exact Nat.ne_of_lt (blk_lt (g := gb133) (o := .cells #[.int .i64 0, .int .i64 0, .slice none 0 0, .int .i64 0] 26 (0, 0)) (by (with_reducible repeat (first | refine blk_drewN ?_ _ | refine blk_drew ?_ | refine blk_alloc ?_ _)); exact BK133.out)) : gb133 ≠ gb138)); have n12_ := Aside0.mk ((by rw [hg]; exact Nat.ne_of_gt (blk_lt (g := gb133) (o := .cells #[.int .i64 0, .int .i64 0, .slice none 0 0, .int .i64 0] 26 (0, 0)) (by (with_reducible repeat (first | refine blk_drewN ?_ _ | refine blk_drew ?_ | refine blk_alloc ?_ _)); exact BK133.out)) : gb138 ≠ gb133)); clear BK131; clear BK132; clear BK133; clear HB; have BK131 := n0_; have BK132 := n1_; have BK133 := n2_; have HB := n3_; have BK138 := n4_; have GW138 := n5_; have GE138 := n6_; have NB131_138 := n7_; have NB138_131 := n8_; have NB132_138 := n9_; have NB138_132 := n10_; have NB133_138 := n11_; have NB138_133 := n12_; clear n0_ n1_ n2_ n3_ n4_ n5_ n6_ n7_ n8_ n9_ n10_ n11_ n12_; clear hb hbox hg; have hnb29 := NB138_131.out; have hnc29 := NB131_138.out; have hnb30 := NB138_132.out; have hnc30 := NB132_138.out; have hnb31 := NB138_133.out; have hnc31 := NB133_138.out; have hcz32_0 : w28.cell? ⟨gb138, 0, none⟩ = some (.int .i64 0) := (blk_cell BK138.out 0).trans rfl; have hcz32_1 : w28.cell? ⟨gb138, 1, none⟩ = some (.int .i64 0) := (blk_cell BK138.out 1).trans rfl; have hcz32_2 : w28.cell? ⟨gb138, 2, none⟩ = some (.slice none 0 0) := (blk_cell BK138.out 2).trans rfl; have hcz32_3 : w28.cell? ⟨gb138, 3, none⟩ = some (.int .i64 0) := (blk_cell BK138.out 3).trans rfl; have hfz32_0 := blk_frozen BK138.out 0; have hfz32_1 := blk_frozen BK138.out 1; have hfz32_2 := blk_frozen BK138.out 2; have hfz32_3 := blk_frozen BK138.out 3; have hcz33_0 : w28.cell? ⟨gb131, 0, none⟩ = some (.int .i64 a0_0) := (blk_cell BK131.out 0).trans rfl; have hcz33_1 : w28.cell? ⟨gb131, 1, none⟩ = some (.int .i64 a0_1) := (blk_cell BK131.out 1).trans rfl; have hcz33_2 : w28.cell? ⟨gb131, 2, none⟩ = some (.slice A0_2 l0_2.length c0_2) := (blk_cell BK131.out 2).trans rfl; have hcz33_3 : w28.cell? ⟨gb131, 3, none⟩ = some (.int .i64 a0_3) := (blk_cell BK131.out 3).trans rfl; have hfz33_0 := blk_frozen BK131.out 0; have hfz33_1 := blk_frozen BK131.out 1; have hfz33_2 := blk_frozen BK131.out 2; have hfz33_3 := blk_frozen BK131.out 3) | ((with_reducible refine gate_callee (f := 39) rfl ?_); refine goesL_ (some 46) rfl rfl Try.func39 (by kernel_rfl) rfl #[.slice A0_2 l0_2.length c0_2] rfl (by (try simp only [List.map_toArray, List.map_cons, List.map_nil]); first | done | rfl | (simp only [List.length_drop, List.length_take]; rfl)) ?_; (with_reducible refine (slicesClone_Entry.calls _ _ l0_2 t139 _ ?side1 ?side2 A13.out).mono ?_); (case side1 => exact Kd.C_below HR0_2.out (by repeat (first | (with_reducible first | exact HB.out | apply below_alloc | apply pw_below_drewN | apply below_drew1 | refine below_set ?_ GE131.out | refine below_set ?_ GE132.out | refine below_set ?_ GE133.out | refine below_set ?_ GE138.out) | exact HB.out))); (case side2 => exact HC0_2.out); rintro e w34 ⟨v140, rfl, ho0, hb⟩; refine ⟨_, rfl, ?_⟩; have n0_ := Aside0.mk (Kd.R_lower ho0 (below_size (by repeat (first | (with_reducible first | exact HB.out | apply below_alloc | apply pw_below_drewN | apply below_drew1 | refine below_set ?_ GE131.out | refine below_set ?_ GE132.out | refine below_set ?_ GE133.out | refine below_set ?_ GE138.out) | exact HB.out)))); have n1_ := Aside0.mk (blk_below (g := gb131) (o := .cells #[.int .i64 a0_0, .int .i64 a0_1, .slice A0_2 l0_2.length c0_2, .int .i64 a0_3] 26 (0, 0)) (by (with_reducible repeat (first | refine blk_drewN ?_ _ | refine blk_drew ?_ | refine blk_alloc ?_ _)); refine blk_far ?_ NB131_138.out _; (with_reducible repeat (first | refine blk_drewN ?_ _ | refine blk_drew ?_ | refine blk_alloc ?_ _)); refine blk_far ?_ NB131_138.out _; (with_reducible repeat (first | refine blk_drewN ?_ _ | refine blk_drew ?_ | refine blk_alloc ?_ _)); refine blk_far ?_ NB131_138.out _; (with_reducible repeat (first | refine blk_drewN ?_ _ | refine blk_drew ?_ | refine blk_alloc ?_ _)); refine blk_far ?_ NB131_138.out _; (with_reducible repeat (first | refine blk_drewN ?_ _ | refine blk_drew ?_ | refine blk_alloc ?_ _)); exact BK131.out) hb); have n2_ := Aside0.mk (blk_below (g := gb132) (o := .cells #[.int .i64 a1_0, .int .i64 a1_1] 23 (0, 0)) (by (with_reducible repeat (first | refine blk_drewN ?_ _ | refine blk_drew ?_ | refine blk_alloc ?_ _)); refine blk_far ?_ NB132_138.out _; (with_reducible repeat (first | refine blk_drewN ?_ _ | refine blk_drew ?_ | refine blk_alloc ?_ _)); refine blk_far ?_ NB132_138.out _; (with_reducible repeat (first | refine blk_drewN ?_ _ | refine blk_drew ?_ | refine blk_alloc ?_ _)); refine blk_far ?_ NB132_138.out _; (with_reducible repeat (first | refine blk_drewN ?_ _ | refine blk_drew ?_ | refine blk_alloc ?_ _)); refine blk_far ?_ NB132_138.out _; (with_reducible repeat (first | refine blk_drewN ?_ _ | refine blk_drew ?_ | refine blk_alloc ?_ _)); exact BK132.out) hb); have n3_ := Aside0.mk (blk_below (g := gb133) (o := .cells #[.int .i64 0, .int .i64 0, .slice none 0 0, .int .i64 0] 26 (0, 0)) (by (with_reducible repeat (first | refine blk_drewN ?_ _ | refine blk_drew ?_ | refine blk_alloc ?_ _)); refine blk_far ?_ NB133_138.out _; (with_reducible repeat (first | refine blk_drewN ?_ _ | refine blk_drew ?_ | refine blk_alloc ?_ _)); refine blk_far ?_ NB133_138.out _; (with_reducible repeat (first | refine blk_drewN ?_ _ | refine blk_drew ?_ | refine blk_alloc ?_ _)); refine blk_far ?_ NB133_138.out _; (with_reducible repeat (first | refine blk_drewN ?_ _ | refine blk_drew ?_ | refine blk_alloc ?_ _)); refine blk_far ?_ NB133_138.out _; (with_reducible repeat (first | refine blk_drewN ?_ _ | refine blk_drew ?_ | refine blk_alloc ?_ _)); exact BK133.out) hb); have n4_ := Aside0.mk (blk_below (g := gb138) (o := .cells #[.int .i64 a0_0, .int .i64 a0_1, .slice A0_2 l0_2.length c0_2, .int .i64 a0_3] 26 (0, 0)) (by (with_reducible repeat (first | refine blk_drewN ?_ _ | refine blk_drew ?_ | refine blk_alloc ?_ _)); refine blk_put (cs := #[.int .i64 a0_0, .int .i64 a0_1, .slice A0_2 l0_2.length c0_2, .int .i64 0]) ?_ 3 _ rfl; (with_reducible repeat (first | refine blk_drewN ?_ _ | refine blk_drew ?_ | refine blk_alloc ?_ _)); refine blk_put (cs := #[.int .i64 a0_0, .int .i64 a0_1, .slice none 0 0, .int .i64 0]) ?_ 2 _ rfl; (with_reducible repeat (first | refine blk_drewN ?_ _ | refine blk_drew ?_ | refine blk_alloc ?_ _)); refine blk_put (cs := #[.int .i64 a0_0, .int .i64 0, .slice none 0 0, .int .i64 0]) ?_ 1 _ rfl; (with_reducible repeat (first | refine blk_drewN ?_ _ | refine blk_drew ?_ | refine blk_alloc ?_ _)); refine blk_put (cs := #[.int .i64 0, .int .i64 0, .slice none 0 0, .int .i64 0]) ?_ 0 _ rfl; (with_reducible repeat (first | refine blk_drewN ?_ _ | refine blk_drew ?_ | refine blk_alloc ?_ _)); exact BK138.out) hb); have n5_ := Aside0.mk (below_step (by repeat (first | (with_reducible first | exact HB.out | apply below_alloc | apply pw_below_drewN | apply below_drew1 | refine below_set ?_ GE131.out | refine below_set ?_ GE132.out | refine below_set ?_ GE133.out | refine below_set ?_ GE138.out) | exact HB.out)) hb); clear BK131; clear BK132; clear BK133; clear BK138; clear HB; have HO141 := n0_; have BK131 := n1_; have BK132 := n2_; have BK133 := n3_; have BK138 := n4_; have HB := n5_; clear n0_ n1_ n2_ n3_ n4_ n5_; (try clear hb); (try clear hb2); (try clear hk); (try clear hi); (try clear ho0); obtain ⟨Ao35, co35, eo35⟩ := Kd.R_slice HO141.out; subst eo35; have hcz36_0 : w34.cell? ⟨gb138, 0, none⟩ = some (.int .i64 a0_0) := (blk_cell BK138.out 0).trans rfl; have hcz36_1 : w34.cell? ⟨gb138, 1, none⟩ = some (.int .i64 a0_1) := (blk_cell BK138.out 1).trans rfl; have hcz36_2 : w34.cell? ⟨gb138, 2, none⟩ = some (.slice A0_2 l0_2.length c0_2) := (blk_cell BK138.out 2).trans rfl; have hcz36_3 : w34.cell? ⟨gb138, 3, none⟩ = some (.int .i64 a0_3) := (blk_cell BK138.out 3).trans rfl; have hfz36_0 := blk_frozen BK138.out 0; have hfz36_1 := blk_frozen BK138.out 1; have hfz36_2 := blk_frozen BK138.out 2; have hfz36_3 := blk_frozen BK138.out 3; have hcz37_0 : w34.cell? ⟨gb132, 0, none⟩ = some (.int .i64 a1_0) := (blk_cell BK132.out 0).trans rfl; have hcz37_1 : w34.cell? ⟨gb132, 1, none⟩ = some (.int .i64 a1_1) := (blk_cell BK132.out 1).trans rfl; have hfz37_0 := blk_frozen BK132.out 0; have hfz37_1 := blk_frozen BK132.out 1; have hcz38_0 : w34.cell? ⟨gb131, 0, none⟩ = some (.int .i64 a0_0) := (blk_cell BK131.out 0).trans rfl; have hcz38_1 : w34.cell? ⟨gb131, 1, none⟩ = some (.int .i64 a0_1) := (blk_cell BK131.out 1).trans rfl; have hcz38_2 : w34.cell? ⟨gb131, 2, none⟩ = some (.slice A0_2 l0_2.length c0_2) := (blk_cell BK131.out 2).trans rfl; have hcz38_3 : w34.cell? ⟨gb131, 3, none⟩ = some (.int .i64 a0_3) := (blk_cell BK131.out 3).trans rfl; have hfz38_0 := blk_frozen BK131.out 0; have hfz38_1 := blk_frozen BK131.out 1; have hfz38_2 := blk_frozen BK131.out 2; have hfz38_3 := blk_frozen BK131.out 3))
          (try simp only [Act.put, List.setIfInBounds_toArray, List.set_cons_zero, List.set_cons_succ])
          go_cut [] (fun wc => ∃ (kq : Nat) (x134000_13 : Int) (x134001_13 : Int) (x134003_13 : Int), Aside0 (entries_Accept.j0 kq l2 a3 a0_0 a0_1 l0_2 a0_3 a1_0 a1_1 a0_0 a0_1 t139 a0_3 = some (r1, r2, r3, r4, r5, r6, r7)) ∧ Aside0 (kq ≤ k) ∧ Aside0 (Kd.R k33 33 wc w.heap.size (fun _ => True) (.slice Ao35 t139.length co35) t139) ∧ Aside0 (wc.heap[gb131]? = some (.cells #[.int .i64 a0_0, .int .i64 a0_1, (.slice A0_2 l0_2.length c0_2), .int .i64 a0_3] 26 (0, 0))) ∧ Aside0 (wc.heap[gb132]? = some (.cells #[.int .i64 a1_0, .int .i64 a1_1] 23 (0, 0))) ∧ Aside0 (wc.heap[gb133]? = some (.cells #[.int .i64 x134000_13, .int .i64 x134001_13, (.slice none 0 0), .int .i64 x134003_13] 26 (0, 0))) ∧ Aside0 (wc.heap[gb138]? = some (.cells #[.int .i64 a0_0, .int .i64 a0_1, (.slice Ao35 t139.length co35), .int .i64 a0_3] 26 (0, 0))) ∧ Aside0 (Below w.heap.size w wc))
          case first =>
            have H := HC14.out
            clear HC14
            by_cases c39 : a1_0 ≥ a0_0
            focus
              rw [if_pos c39] at H
              have c39b0 : decide (a0_0 ≤ a1_0) = true := decide_eq_true c39
              clear c39
              (first | rw [c39b0] | (simp only [i64_w, i32_w]; rw [c39b0]) | skip)
              replace H := Option.bind_eq_some_iff.mp H
              obtain ⟨⟨t142, t143⟩, A400, H⟩ := H
              replace H : (if t143 = true then (if t142 = a1_1 then (entries_Accept.j0 k l2 a3 a0_0 a0_1 l0_2 a0_3 a1_0 a1_1 a0_0 a0_1 t139 a0_3) else (some (a0_0, a0_1, t139, a0_3, 0, false, 0))) else (some (a0_0, a0_1, t139, a0_3, 0, false, 0))) = some (r1, r2, r3, r4, r5, r6, r7) := H
              have A40 := Aside0.mk A400
              clear A400
              by_cases c41 : t143 = true
              focus
                subst c41
                have H1 : (if t142 = a1_1 then (entries_Accept.j0 k l2 a3 a0_0 a0_1 l0_2 a0_3 a1_0 a1_1 a0_0 a0_1 t139 a0_3) else (some (a0_0, a0_1, t139, a0_3, 0, false, 0))) = some (r1, r2, r3, r4, r5, r6, r7) := by rw [if_pos rfl] at H; exact H
                clear H
                have H := H1
                clear H1
                by_cases c42 : t142 = a1_1
                focus
                  rw [if_pos c42] at H
                  have c42b0 : (t142 == a1_1) = true := beq_iff_eq.mpr c42
                  have c42b1 : (t142 != a1_1) = false := bne_eq_false_iff_eq.mpr c42
                  clear c42
                  have H' := Aside0.mk H
                  clear H
                rotate_left 1
                focus
                  rw [if_neg c42] at H
                  have c42b0 : (t142 == a1_1) = false := beq_eq_false_iff_ne.mpr c42
                  have c42b1 : (t142 != a1_1) = true := bne_iff_ne.mpr c42
                rotate_left 1
              rotate_left 2
              focus
                replace c41 := Bool.eq_false_iff.mpr c41
                subst c41
                have H1 : (some (a0_0, a0_1, t139, a0_3, 0, false, 0)) = some (r1, r2, r3, r4, r5, r6, r7) := by rw [if_neg (show ¬ (false = true) by decide)] at H; exact H
                clear H
                have H := H1
                clear H1
              rotate_left 1
            rotate_left 3
            focus
              rw [if_neg c39] at H
              have c39b0 : decide (a0_0 ≤ a1_0) = false := decide_eq_false c39
              clear c39
              (first | rw [c39b0] | (simp only [i64_w, i32_w]; rw [c39b0]) | skip)
              have H' := Aside0.mk H
              clear H
            rotate_left 1
            focus
              have hnbyb131_132 := NB131_132.out
              have hncyb132_131 := NB132_131.out
              have hnbyb131_133 := NB131_133.out
              have hncyb133_131 := NB133_131.out
              have hnbyb131_138 := NB131_138.out
              have hncyb138_131 := NB138_131.out
              have hczyb131_0 : w34.cell? ⟨gb131, 0, none⟩ = some (.int .i64 a0_0) := (blk_cell BK131.out 0).trans rfl
              have hczyb131_1 : w34.cell? ⟨gb131, 1, none⟩ = some (.int .i64 a0_1) := (blk_cell BK131.out 1).trans rfl
              have hczyb131_2 : w34.cell? ⟨gb131, 2, none⟩ = some (.slice A0_2 l0_2.length c0_2) := (blk_cell BK131.out 2).trans rfl
              have hczyb131_3 : w34.cell? ⟨gb131, 3, none⟩ = some (.int .i64 a0_3) := (blk_cell BK131.out 3).trans rfl
              have hfzyb131_0 := blk_frozen BK131.out 0
              have hfzyb131_1 := blk_frozen BK131.out 1
              have hfzyb131_2 := blk_frozen BK131.out 2
              have hfzyb131_3 := blk_frozen BK131.out 3
              have hnbyb132_133 := NB132_133.out
              have hncyb133_132 := NB133_132.out
              have hnbyb132_138 := NB132_138.out
              have hncyb138_132 := NB138_132.out
              have hczyb132_0 : w34.cell? ⟨gb132, 0, none⟩ = some (.int .i64 a1_0) := (blk_cell BK132.out 0).trans rfl
              have hczyb132_1 : w34.cell? ⟨gb132, 1, none⟩ = some (.int .i64 a1_1) := (blk_cell BK132.out 1).trans rfl
              have hfzyb132_0 := blk_frozen BK132.out 0
              have hfzyb132_1 := blk_frozen BK132.out 1
              go_wp2_with (first | go_step3 | (simp only [Exit.noGoto_normal, Exit.noGoto_exit, Exit.noGoto_ret]) | ((with_reducible refine gate_callee (f := 27) rfl ?_); refine goesL_ (some 58) rfl rfl Try.func27 (by kernel_rfl) rfl #[.agg #[.int .i64 a0_0, .int .i64 a0_1, .slice A0_2 l0_2.length c0_2, .int .i64 a0_3], .int .i64 a1_0] rfl (by (try simp only [List.map_toArray, List.map_cons, List.map_nil]); first | done | rfl | (simp only [List.length_drop, List.length_take]; rfl)) ?_; (with_reducible refine (entries_TermAt.calls k a0_0 a0_1 _ _ l0_2 a0_3 a1_0 t142 _ _ ?side1 ?side2 A40.out).mono ?_); (case side1 => exact Kd.C_below HR0_2.out (by repeat (first | (with_reducible first | exact HB.out | apply below_alloc | apply pw_below_drewN | apply below_drew1 | refine below_set ?_ GE131.out | refine below_set ?_ GE132.out | refine below_set ?_ GE133.out | refine below_set ?_ GE138.out) | exact HB.out))); (case side2 => exact HC0_2.out); rintro e wx58i0 ⟨rfl, hb⟩; refine ⟨_, rfl, ?_⟩; have n0_ := Aside0.mk (Kd.R_below (by (with_reducible repeat (first | apply Kd.R_alloc | apply Kd.R_drewN | apply Kd.R_drew)); exact (Kd.R_mono (Kd.R_far (p := ⟨gb138, 2, none⟩) (Kd.R_types HO141.out BK138.out (by decide)) (fun _ hk => hk.2) (.slice Ao35 t139.length co35)) (fun _ h_ => h_.1))) hb); have n1_ := Aside0.mk (blk_below (g := gb131) (o := .cells #[.int .i64 a0_0, .int .i64 a0_1, .slice A0_2 l0_2.length c0_2, .int .i64 a0_3] 26 (0, 0)) (by (with_reducible repeat (first | refine blk_drewN ?_ _ | refine blk_drew ?_ | refine blk_alloc ?_ _)); refine blk_far ?_ NB131_138.out _; (with_reducible repeat (first | refine blk_drewN ?_ _ | refine blk_drew ?_ | refine blk_alloc ?_ _)); exact BK131.out) hb); have n2_ := Aside0.mk (blk_below (g := gb132) (o := .cells #[.int .i64 a1_0, .int .i64 a1_1] 23 (0, 0)) (by (with_reducible repeat (first | refine blk_drewN ?_ _ | refine blk_drew ?_ | refine blk_alloc ?_ _)); refine blk_far ?_ NB132_138.out _; (with_reducible repeat (first | refine blk_drewN ?_ _ | refine blk_drew ?_ | refine blk_alloc ?_ _)); exact BK132.out) hb); have n3_ := Aside0.mk (blk_below (g := gb133) (o := .cells #[.int .i64 0, .int .i64 0, .slice none 0 0, .int .i64 0] 26 (0, 0)) (by (with_reducible repeat (first | refine blk_drewN ?_ _ | refine blk_drew ?_ | refine blk_alloc ?_ _)); refine blk_far ?_ NB133_138.out _; (with_reducible repeat (first | refine blk_drewN ?_ _ | refine blk_drew ?_ | refine blk_alloc ?_ _)); exact BK133.out) hb); have n4_ := Aside0.mk (blk_below (g := gb138) (o := .cells #[.int .i64 a0_0, .int .i64 a0_1, .slice Ao35 t139.length co35, .int .i64 a0_3] 26 (0, 0)) (by (with_reducible repeat (first | refine blk_drewN ?_ _ | refine blk_drew ?_ | refine blk_alloc ?_ _)); refine blk_put (cs := #[.int .i64 a0_0, .int .i64 a0_1, .slice A0_2 l0_2.length c0_2, .int .i64 a0_3]) ?_ 2 _ rfl; (with_reducible repeat (first | refine blk_drewN ?_ _ | refine blk_drew ?_ | refine blk_alloc ?_ _)); exact BK138.out) hb); have n5_ := Aside0.mk (below_step (by repeat (first | (with_reducible first | exact HB.out | apply below_alloc | apply pw_below_drewN | apply below_drew1 | refine below_set ?_ GE131.out | refine below_set ?_ GE132.out | refine below_set ?_ GE133.out | refine below_set ?_ GE138.out) | exact HB.out)) hb); clear HO141; clear BK131; clear BK132; clear BK133; clear BK138; clear HB; have HO141 := n0_; have BK131 := n1_; have BK132 := n2_; have BK133 := n3_; have BK138 := n4_; have HB := n5_; clear n0_ n1_ n2_ n3_ n4_ n5_; (try clear hb); (try clear hb2); (try clear hk); (try clear hi); have hczx58b132_0 : wx58i0.cell? ⟨gb132, 0, none⟩ = some (.int .i64 a1_0) := (blk_cell BK132.out 0).trans rfl; have hczx58b132_1 : wx58i0.cell? ⟨gb132, 1, none⟩ = some (.int .i64 a1_1) := (blk_cell BK132.out 1).trans rfl; have hfzx58b132_0 := blk_frozen BK132.out 0; have hfzx58b132_1 := blk_frozen BK132.out 1))
              go_meet
              case rel => exact ⟨_, (0), (0), (0), H', ⟨by first | omega | exact Nat.le_refl _⟩, ⟨by (with_reducible repeat (first | apply Kd.R_alloc | apply Kd.R_drewN | apply Kd.R_drew)); exact HO141.out⟩, ⟨by (with_reducible repeat (first | refine blk_drewN ?_ _ | refine blk_drew ?_ | refine blk_alloc ?_ _)); exact BK131.out⟩, ⟨by (with_reducible repeat (first | refine blk_drewN ?_ _ | refine blk_drew ?_ | refine blk_alloc ?_ _)); exact BK132.out⟩, ⟨by (with_reducible repeat (first | refine blk_drewN ?_ _ | refine blk_drew ?_ | refine blk_alloc ?_ _)); exact BK133.out⟩, ⟨by (with_reducible repeat (first | refine blk_drewN ?_ _ | refine blk_drew ?_ | refine blk_alloc ?_ _)); exact BK138.out⟩, ⟨by repeat (first | (with_reducible first | exact HB.out | apply below_alloc | apply pw_below_drewN | apply below_drew1 | refine below_set ?_ GE131.out | refine below_set ?_ GE132.out | refine below_set ?_ GE133.out | refine below_set ?_ GE138.out) | exact HB.out)⟩⟩
            iterate 2
              focus
                simp only [Option.some.injEq, Prod.mk.injEq] at H
                obtain ⟨rfl, rfl, rfl, rfl, rfl, rfl, rfl⟩ := H
                have hnbyb131_132 := NB131_132.out
                have hncyb132_131 := NB132_131.out
                have hnbyb131_133 := NB131_133.out
                have hncyb133_131 := NB133_131.out
                have hnbyb131_138 := NB131_138.out
                have hncyb138_131 := NB138_131.out
                have hczyb131_0 : w34.cell? ⟨gb131, 0, none⟩ = some (.int .i64 a0_0) := (blk_cell BK131.out 0).trans rfl
                have hczyb131_1 : w34.cell? ⟨gb131, 1, none⟩ = some (.int .i64 a0_1) := (blk_cell BK131.out 1).trans rfl
                have hczyb131_2 : w34.cell? ⟨gb131, 2, none⟩ = some (.slice A0_2 l0_2.length c0_2) := (blk_cell BK131.out 2).trans rfl
                have hczyb131_3 : w34.cell? ⟨gb131, 3, none⟩ = some (.int .i64 a0_3) := (blk_cell BK131.out 3).trans rfl
                have hfzyb131_0 := blk_frozen BK131.out 0
                have hfzyb131_1 := blk_frozen BK131.out 1
                have hfzyb131_2 := blk_frozen BK131.out 2
                have hfzyb131_3 := blk_frozen BK131.out 3
                have hnbyb132_133 := NB132_133.out
                have hncyb133_132 := NB133_132.out
                have hnbyb132_138 := NB132_138.out
                have hncyb138_132 := NB138_132.out
                have hczyb132_0 : w34.cell? ⟨gb132, 0, none⟩ = some (.int .i64 a1_0) := (blk_cell BK132.out 0).trans rfl
                have hczyb132_1 : w34.cell? ⟨gb132, 1, none⟩ = some (.int .i64 a1_1) := (blk_cell BK132.out 1).trans rfl
                have hfzyb132_0 := blk_frozen BK132.out 0
                have hfzyb132_1 := blk_frozen BK132.out 1
                go_wp2_with (first | go_step3 | (simp only [Exit.noGoto_normal, Exit.noGoto_exit, Exit.noGoto_ret]) | ((with_reducible refine gate_callee (f := 27) rfl ?_); refine goesL_ (some 58) rfl rfl Try.func27 (by kernel_rfl) rfl #[.agg #[.int .i64 a0_0, .int .i64 a0_1, .slice A0_2 l0_2.length c0_2, .int .i64 a0_3], .int .i64 a1_0] rfl (by (try simp only [List.map_toArray, List.map_cons, List.map_nil]); first | done | rfl | (simp only [List.length_drop, List.length_take]; rfl)) ?_; (with_reducible refine (entries_TermAt.calls k a0_0 a0_1 _ _ l0_2 a0_3 a1_0 t142 _ _ ?side1 ?side2 A40.out).mono ?_); (case side1 => exact Kd.C_below HR0_2.out (by repeat (first | (with_reducible first | exact HB.out | apply below_alloc | apply pw_below_drewN | apply below_drew1 | refine below_set ?_ GE131.out | refine below_set ?_ GE132.out | refine below_set ?_ GE133.out | refine below_set ?_ GE138.out) | exact HB.out))); (case side2 => exact HC0_2.out); rintro e wx58i0 ⟨rfl, hb⟩; refine ⟨_, rfl, ?_⟩; have n0_ := Aside0.mk (Kd.R_below (by (with_reducible repeat (first | apply Kd.R_alloc | apply Kd.R_drewN | apply Kd.R_drew)); exact (Kd.R_mono (Kd.R_far (p := ⟨gb138, 2, none⟩) (Kd.R_types HO141.out BK138.out (by decide)) (fun _ hk => hk.2) (.slice Ao35 t139.length co35)) (fun _ h_ => h_.1))) hb); have n1_ := Aside0.mk (blk_below (g := gb131) (o := .cells #[.int .i64 a0_0, .int .i64 a0_1, .slice A0_2 l0_2.length c0_2, .int .i64 a0_3] 26 (0, 0)) (by (with_reducible repeat (first | refine blk_drewN ?_ _ | refine blk_drew ?_ | refine blk_alloc ?_ _)); refine blk_far ?_ NB131_138.out _; (with_reducible repeat (first | refine blk_drewN ?_ _ | refine blk_drew ?_ | refine blk_alloc ?_ _)); exact BK131.out) hb); have n2_ := Aside0.mk (blk_below (g := gb132) (o := .cells #[.int .i64 a1_0, .int .i64 a1_1] 23 (0, 0)) (by (with_reducible repeat (first | refine blk_drewN ?_ _ | refine blk_drew ?_ | refine blk_alloc ?_ _)); refine blk_far ?_ NB132_138.out _; (with_reducible repeat (first | refine blk_drewN ?_ _ | refine blk_drew ?_ | refine blk_alloc ?_ _)); exact BK132.out) hb); have n3_ := Aside0.mk (blk_below (g := gb133) (o := .cells #[.int .i64 0, .int .i64 0, .slice none 0 0, .int .i64 0] 26 (0, 0)) (by (with_reducible repeat (first | refine blk_drewN ?_ _ | refine blk_drew ?_ | refine blk_alloc ?_ _)); refine blk_far ?_ NB133_138.out _; (with_reducible repeat (first | refine blk_drewN ?_ _ | refine blk_drew ?_ | refine blk_alloc ?_ _)); exact BK133.out) hb); have n4_ := Aside0.mk (blk_below (g := gb138) (o := .cells #[.int .i64 a0_0, .int .i64 a0_1, .slice Ao35 t139.length co35, .int .i64 a0_3] 26 (0, 0)) (by (with_reducible repeat (first | refine blk_drewN ?_ _ | refine blk_drew ?_ | refine blk_alloc ?_ _)); refine blk_put (cs := #[.int .i64 a0_0, .int .i64 a0_1, .slice A0_2 l0_2.length c0_2, .int .i64 a0_3]) ?_ 2 _ rfl; (with_reducible repeat (first | refine blk_drewN ?_ _ | refine blk_drew ?_ | refine blk_alloc ?_ _)); exact BK138.out) hb); have n5_ := Aside0.mk (below_step (by repeat (first | (with_reducible first | exact HB.out | apply below_alloc | apply pw_below_drewN | apply below_drew1 | refine below_set ?_ GE131.out | refine below_set ?_ GE132.out | refine below_set ?_ GE133.out | refine below_set ?_ GE138.out) | exact HB.out)) hb); clear HO141; clear BK131; clear BK132; clear BK133; clear BK138; clear HB; have HO141 := n0_; have BK131 := n1_; have BK132 := n2_; have BK133 := n3_; have BK138 := n4_; have HB := n5_; clear n0_ n1_ n2_ n3_ n4_ n5_; (try clear hb); (try clear hb2); (try clear hk); (try clear hi); (try have hczx58b132_0 : wx58i0.cell? ⟨gb132, 0, none⟩ = some (.int .i64 a1_0) := (blk_cell BK132.out 0).trans rfl); (try have hczx58b132_1 : wx58i0.cell? ⟨gb132, 1, none⟩ = some (.int .i64 a1_1) := (blk_cell BK132.out 1).trans rfl); (try have hfzx58b132_0 := blk_frozen BK132.out 0); (try have hfzx58b132_1 := blk_frozen BK132.out 1); have hnbx58b138_133 := NB138_133.out; have hncx58b133_138 := NB133_138.out; have hczx58b138_0 : wx58i0.cell? ⟨gb138, 0, none⟩ = some (.int .i64 a0_0) := (blk_cell BK138.out 0).trans rfl; have hczx58b138_1 : wx58i0.cell? ⟨gb138, 1, none⟩ = some (.int .i64 a0_1) := (blk_cell BK138.out 1).trans rfl; have hczx58b138_2 : wx58i0.cell? ⟨gb138, 2, none⟩ = some (.slice Ao35 t139.length co35) := (blk_cell BK138.out 2).trans rfl; have hczx58b138_3 : wx58i0.cell? ⟨gb138, 3, none⟩ = some (.int .i64 a0_3) := (blk_cell BK138.out 3).trans rfl; have hfzx58b138_0 := blk_frozen BK138.out 0; have hfzx58b138_1 := blk_frozen BK138.out 1; have hfzx58b138_2 := blk_frozen BK138.out 2; have hfzx58b138_3 := blk_frozen BK138.out 3; have hczx58b133_0 : wx58i0.cell? ⟨gb133, 0, none⟩ = some (.int .i64 0) := (blk_cell BK133.out 0).trans rfl; have hczx58b133_1 : wx58i0.cell? ⟨gb133, 1, none⟩ = some (.int .i64 0) := (blk_cell BK133.out 1).trans rfl; have hczx58b133_2 : wx58i0.cell? ⟨gb133, 2, none⟩ = some (.slice none 0 0) := (blk_cell BK133.out 2).trans rfl; have hczx58b133_3 : wx58i0.cell? ⟨gb133, 3, none⟩ = some (.int .i64 0) := (blk_cell BK133.out 3).trans rfl; have hfzx58b133_0 := blk_frozen BK133.out 0; have hfzx58b133_1 := blk_frozen BK133.out 1; have hfzx58b133_2 := blk_frozen BK133.out 2; have hfzx58b133_3 := blk_frozen BK133.out 3))
                refine bodyPost_ret (results_list (rs := [.cell 8 26, .tmp 9, .tmp 10, .tmp 11]) rfl (by simp) (.cell gb133 26 #[.int .i64 a0_0, .int .i64 a0_1, .slice Ao35 t139.length co35, .int .i64 a0_3] (0, 0) _ rfl (by (with_reducible repeat (first | refine blk_drewN ?_ _ | refine blk_drew ?_ | refine blk_alloc ?_ _)); refine blk_put (cs := #[.int .i64 a0_0, .int .i64 a0_1, .slice Ao35 t139.length co35, .int .i64 0]) ?_ 3 _ rfl; (with_reducible repeat (first | refine blk_drewN ?_ _ | refine blk_drew ?_ | refine blk_alloc ?_ _)); refine blk_put (cs := #[.int .i64 a0_0, .int .i64 a0_1, .slice none 0 0, .int .i64 0]) ?_ 2 _ rfl; (with_reducible repeat (first | refine blk_drewN ?_ _ | refine blk_drew ?_ | refine blk_alloc ?_ _)); refine blk_put (cs := #[.int .i64 a0_0, .int .i64 0, .slice none 0 0, .int .i64 0]) ?_ 1 _ rfl; (with_reducible repeat (first | refine blk_drewN ?_ _ | refine blk_drew ?_ | refine blk_alloc ?_ _)); refine blk_put (cs := #[.int .i64 0, .int .i64 0, .slice none 0 0, .int .i64 0]) ?_ 0 _ rfl; (with_reducible repeat (first | refine blk_drewN ?_ _ | refine blk_drew ?_ | refine blk_alloc ?_ _)); exact BK133.out) Try.underlying26 rfl (by kernel_rfl) (.tmp (.tmp (.tmp .nil))))) rfl ?_
                exact ⟨_, by first | rfl | (simp [errW_none, errW_some] <;> rfl) | (simp [*, errW_none, errW_some] <;> rfl), by (with_reducible repeat (first | apply Kd.R_alloc | apply Kd.R_drewN | apply Kd.R_drew)); exact Kd.R_mono (Kd.R_far (p := ⟨gb133, 3, none⟩) (Kd.R_far (p := ⟨gb133, 2, none⟩) (Kd.R_far (p := ⟨gb133, 1, none⟩) (Kd.R_far (p := ⟨gb133, 0, none⟩) (Kd.R_types HO141.out BK133.out (by decide)) (fun _ hk => hk.2) (.int .i64 a0_0)) (fun _ hk => hk.2) (.int .i64 a0_1)) (fun _ hk => hk.2) (.slice Ao35 t139.length co35)) (fun _ hk => hk.2) (.int .i64 a0_3)) (fun _ hk => trivial), by repeat (first | (with_reducible first | exact HB.out | apply below_alloc | apply pw_below_drewN | apply below_drew1 | refine below_set ?_ GE131.out | refine below_set ?_ GE132.out | refine below_set ?_ GE133.out | refine below_set ?_ GE138.out) | exact HB.out)⟩
            focus
              go_wp2_with (first | go_step3 | (simp only [Exit.noGoto_normal, Exit.noGoto_exit, Exit.noGoto_ret]))
              go_meet
              case rel => exact ⟨_, (0), (0), (0), H', ⟨by first | omega | exact Nat.le_refl _⟩, ⟨by (with_reducible repeat (first | apply Kd.R_alloc | apply Kd.R_drewN | apply Kd.R_drew)); exact Kd.R_mono (Kd.R_far (p := ⟨gb138, 2, none⟩) (Kd.R_types HO141.out BK138.out (by decide)) (fun _ hk => hk.2) (.slice Ao35 t139.length co35)) (fun _ hk => trivial)⟩, ⟨by (with_reducible repeat (first | refine blk_drewN ?_ _ | refine blk_drew ?_ | refine blk_alloc ?_ _)); refine blk_far ?_ NB131_138.out _; (with_reducible repeat (first | refine blk_drewN ?_ _ | refine blk_drew ?_ | refine blk_alloc ?_ _)); exact BK131.out⟩, ⟨by (with_reducible repeat (first | refine blk_drewN ?_ _ | refine blk_drew ?_ | refine blk_alloc ?_ _)); refine blk_far ?_ NB132_138.out _; (with_reducible repeat (first | refine blk_drewN ?_ _ | refine blk_drew ?_ | refine blk_alloc ?_ _)); exact BK132.out⟩, ⟨by (with_reducible repeat (first | refine blk_drewN ?_ _ | refine blk_drew ?_ | refine blk_alloc ?_ _)); refine blk_far ?_ NB133_138.out _; (with_reducible repeat (first | refine blk_drewN ?_ _ | refine blk_drew ?_ | refine blk_alloc ?_ _)); exact BK133.out⟩, ⟨by (with_reducible repeat (first | refine blk_drewN ?_ _ | refine blk_drew ?_ | refine blk_alloc ?_ _)); refine blk_put (cs := #[.int .i64 a0_0, .int .i64 a0_1, .slice A0_2 l0_2.length c0_2, .int .i64 a0_3]) ?_ 2 _ rfl; (with_reducible repeat (first | refine blk_drewN ?_ _ | refine blk_drew ?_ | refine blk_alloc ?_ _)); exact BK138.out⟩, ⟨by repeat (first | (with_reducible first | exact HB.out | apply below_alloc | apply pw_below_drewN | apply below_drew1 | refine below_set ?_ GE131.out | refine below_set ?_ GE132.out | refine below_set ?_ GE133.out | refine below_set ?_ GE138.out) | exact HB.out)⟩⟩
          case rest =>
            clear HC14
            try clear c2
            try clear c6
            try clear c6b0
            try clear c6b1
            try clear c8
            try clear c10
            try clear c12
            try clear hcz20_0
            try clear hcz20_1
            try clear hcz20_2
            try clear hcz20_3
            try clear hcz23_0
            try clear hcz23_1
            try clear hcz25_0
            try clear hcz25_1
            try clear hcz27_0
            try clear hcz27_1
            try clear hcz27_2
            try clear hcz27_3
            try clear hcz32_0
            try clear hcz32_1
            try clear hcz32_2
            try clear hcz32_3
            try clear hcz33_0
            try clear hcz33_1
            try clear hcz33_2
            try clear hcz33_3
            try clear hcz36_0
            try clear hcz36_1
            try clear hcz36_2
            try clear hcz36_3
            try clear hcz37_0
            try clear hcz37_1
            try clear hcz38_0
            try clear hcz38_1
            try clear hcz38_2
            try clear hcz38_3
            try clear hfz20_0
            try clear hfz20_1
            try clear hfz20_2
            try clear hfz20_3
            try clear hfz23_0
            try clear hfz23_1
            try clear hfz25_0
            try clear hfz25_1
            try clear hfz27_0
            try clear hfz27_1
            try clear hfz27_2
            try clear hfz27_3
            try clear hfz32_0
            try clear hfz32_1
            try clear hfz32_2
            try clear hfz32_3
            try clear hfz33_0
            try clear hfz33_1
            try clear hfz33_2
            try clear hfz33_3
            try clear hfz36_0
            try clear hfz36_1
            try clear hfz36_2
            try clear hfz36_3
            try clear hfz37_0
            try clear hfz37_1
            try clear hfz38_0
            try clear hfz38_1
            try clear hfz38_2
            try clear hfz38_3
            obtain ⟨kq, x134000_13, x134001_13, x134003_13, HA, HJ13, HO_139002, BK131, BK132, BK133, BK138, HB⟩ := hcut
            cases kq with
            | zero => exact absurd HA.out (by simp [entries_Accept.j0])
            | succ kj13 =>
              have H := HA.out
              clear HA
              simp only [entries_Accept.j0] at H
              have HC75 := Aside0.mk H
              clear H
              go_upto_block 1 with (first | go_step3 | (simp only [Exit.noGoto_normal, Exit.noGoto_exit, Exit.noGoto_ret]))
              go_cut [] (fun wc => ∃ (kq : Nat) (x134000_74 : Int) (x134001_74 : Int) (x134003_74 : Int) (x139002_74 : List (S33)) (u139002 : Value), Aside0 (entries_Accept.j3 kq l2 a3 a0_0 a0_1 l0_2 a0_3 a1_0 a1_1 a0_0 a0_1 x139002_74 a0_3 = some (r1, r2, r3, r4, r5, r6, r7)) ∧ Aside0 (kq ≤ kj13) ∧ Aside0 (Kd.R k33 33 wc w.heap.size (fun _ => True) u139002 x139002_74) ∧ Aside0 (wc.heap[gb131]? = some (.cells #[.int .i64 a0_0, .int .i64 a0_1, (.slice A0_2 l0_2.length c0_2), .int .i64 a0_3] 26 (0, 0))) ∧ Aside0 (wc.heap[gb132]? = some (.cells #[.int .i64 a1_0, .int .i64 a1_1] 23 (0, 0))) ∧ Aside0 (wc.heap[gb133]? = some (.cells #[.int .i64 x134000_74, .int .i64 x134001_74, (.slice none 0 0), .int .i64 x134003_74] 26 (0, 0))) ∧ Aside0 (wc.heap[gb138]? = some (.cells #[.int .i64 a0_0, .int .i64 a0_1, u139002, .int .i64 a0_3] 26 (0, 0))) ∧ Aside0 (Below w.heap.size w wc))
              case first =>
                have H := HC75.out
                clear HC75
                have H' := Aside0.mk H
                clear H
                go_wp2_with (first | go_step3 | (simp only [Exit.noGoto_normal, Exit.noGoto_exit, Exit.noGoto_ret]))
                go_loopg [72] kj13 (fun kq v72 w' => ∃ (x72_2 : Int) (x134000_2 : Int) (x134001_2 : Int) (x134003_2 : Int) (x139002_2 : List (S33)) (u139002 : Value), v72 = .int .i64 x72_2 ∧ Aside0 (entries_Accept.l0 kq l2 a3 l2 (l2.length : Int) x72_2 a0_0 a0_1 l0_2 a0_3 a1_0 a1_1 a0_0 a0_1 x139002_2 a0_3 = some (r1, r2, r3, r4, r5, r6, r7)) ∧ Aside0 (kq ≤ kj13) ∧ Aside0 (Kd.R k33 33 w' w.heap.size (fun _ => True) u139002 x139002_2) ∧ Aside0 (w'.heap[gb131]? = some (.cells #[.int .i64 a0_0, .int .i64 a0_1, (.slice A0_2 l0_2.length c0_2), .int .i64 a0_3] 26 (0, 0))) ∧ Aside0 (w'.heap[gb132]? = some (.cells #[.int .i64 a1_0, .int .i64 a1_1] 23 (0, 0))) ∧ Aside0 (w'.heap[gb133]? = some (.cells #[.int .i64 x134000_2, .int .i64 x134001_2, (.slice none 0 0), .int .i64 x134003_2] 26 (0, 0))) ∧ Aside0 (w'.heap[gb138]? = some (.cells #[.int .i64 a0_0, .int .i64 a0_1, u139002, .int .i64 a0_3] 26 (0, 0))) ∧ Aside0 (Below w.heap.size w w'))
                case atStart => exact ⟨(0), (x134000_13), (x134001_13), (x134003_13), (t139), (.slice Ao35 t139.length co35), (by first | rfl | (simp; done) | (simp [*]; done)), H', ⟨Nat.le_refl _⟩, ⟨by (with_reducible repeat (first | apply Kd.R_alloc | apply Kd.R_drewN | apply Kd.R_drew)); exact HO_139002.out⟩, ⟨by (with_reducible repeat (first | refine blk_drewN ?_ _ | refine blk_drew ?_ | refine blk_alloc ?_ _)); exact BK131.out⟩, ⟨by (with_reducible repeat (first | refine blk_drewN ?_ _ | refine blk_drew ?_ | refine blk_alloc ?_ _)); exact BK132.out⟩, ⟨by (with_reducible repeat (first | refine blk_drewN ?_ _ | refine blk_drew ?_ | refine blk_alloc ?_ _)); exact BK133.out⟩, ⟨by (with_reducible repeat (first | refine blk_drewN ?_ _ | refine blk_drew ?_ | refine blk_alloc ?_ _)); exact BK138.out⟩, ⟨by repeat (first | (with_reducible first | exact HB.out | apply below_alloc | apply pw_below_drewN | apply below_drew1 | refine below_set ?_ GE131.out | refine below_set ?_ GE132.out | refine below_set ?_ GE133.out | refine below_set ?_ GE138.out) | exact HB.out)⟩⟩
                case round =>
                  clear H'
                  try clear c2
                  try clear c6
                  try clear c6b0
                  try clear c6b1
                  try clear c8
                  try clear c10
                  try clear c12
                  try clear hcz20_0
                  try clear hcz20_1
                  try clear hcz20_2
                  try clear hcz20_3
                  try clear hcz23_0
                  try clear hcz23_1
                  try clear hcz25_0
                  try clear hcz25_1
                  try clear hcz27_0
                  try clear hcz27_1
                  try clear hcz27_2
                  try clear hcz27_3
                  try clear hcz32_0
                  try clear hcz32_1
                  try clear hcz32_2
                  try clear hcz32_3
                  try clear hcz33_0
                  try clear hcz33_1
                  try clear hcz33_2
                  try clear hcz33_3
                  try clear hcz36_0
                  try clear hcz36_1
                  try clear hcz36_2
                  try clear hcz36_3
                  try clear hcz37_0
                  try clear hcz37_1
                  try clear hcz38_0
                  try clear hcz38_1
                  try clear hcz38_2
                  try clear hcz38_3
                  try clear hfz20_0
                  try clear hfz20_1
                  try clear hfz20_2
                  try clear hfz20_3
                  try clear hfz23_0
                  try clear hfz23_1
                  try clear hfz25_0
                  try clear hfz25_1
                  try clear hfz27_0
                  try clear hfz27_1
                  try clear hfz27_2
                  try clear hfz27_3
                  try clear hfz32_0
                  try clear hfz32_1
                  try clear hfz32_2
                  try clear hfz32_3
                  try clear hfz33_0
                  try clear hfz33_1
                  try clear hfz33_2
                  try clear hfz33_3
                  try clear hfz36_0
                  try clear hfz36_1
                  try clear hfz36_2
                  try clear hfz36_3
                  try clear hfz37_0
                  try clear hfz37_1
                  try clear hfz38_0
                  try clear hfz38_1
                  try clear hfz38_2
                  try clear hfz38_3
                  obtain ⟨x72_2, x134000_2, x134001_2, x134003_2, x139002_2, u139002, rfl, HA, HK2, HO_139002, BK131, BK132, BK133, BK138, HB⟩ := hrel
                  cases gk with
                  | zero => exact absurd HA.out (by simp [entries_Accept.l0])
                  | succ k2 =>
                    have H := HA.out
                    clear HA
                    simp only [entries_Accept.l0] at H
                    by_cases c76 : x72_2 < (l2.length : Int)
                    · rw [if_pos c76] at H
                      have c76b0 : decide (x72_2 < (l2.length : Int)) = true := decide_eq_true c76
                      clear c76
                      (first | rw [c76b0] | (simp only [i64_w, i32_w]; rw [c76b0]) | skip)
                      by_cases c77 : 0 ≤ x72_2
                      · rw [if_pos c77] at H
                        have c77b0 : decide (0 ≤ x72_2) = true := decide_eq_true c77
                        clear c77
                        by_cases c78 : x72_2 < (l2.length : Int)
                        · rw [if_pos c78] at H
                          have c78b0 : decide (x72_2 < (l2.length : Int)) = true := decide_eq_true c78
                          clear c78
                          by_cases c79 : (wrap64 ((wrap64 (a1_0 + 1)) + x72_2)) ≤ a0_0
                          · rw [if_pos c79] at H
                            have c79b0 : decide ((wrap64 ((wrap64 (a1_0 + 1)) + x72_2)) ≤ a0_0) = true := decide_eq_true c79
                            clear c79
                            have H' := Aside0.mk H
                            clear H
                            have p144 : 0 ≤ (x72_2 : Int) := of_decide_eq_true (by first | (with_reducible assumption) | assumption)
                            have q144 : x72_2 < (l2.length : Int) := of_decide_eq_true (by first | (with_reducible assumption) | assumption)
                            obtain ⟨ad144, e144, hx144_0, hx144_1, hx144_2⟩ := at_T33 HR2.out x72_2 p144 q144
                            cases e144
                            replace hx144_0 := (HB.out.cell (World.block_lt_of_cell? w _ hx144_0)).trans hx144_0
                            replace hx144_1 := (HB.out.cell (World.block_lt_of_cell? w _ hx144_1)).trans hx144_1
                            replace hx144_2 := (HB.out.cell (World.block_lt_of_cell? w _ hx144_2)).trans hx144_2
                            replace p144 := eq_true p144
                            replace q144 := eq_true q144
                            go_wp2_with (first | go_step3 | (simp only [Exit.noGoto_normal, Exit.noGoto_exit, Exit.noGoto_ret]) | ((with_reducible refine gate_dst (N := 16) rfl ?_); refine box_event ?hg (N := 16) ?hd (cs := #[.int .i64 0, .int .i64 0, .string (⟨#[]⟩ : ByteArray)]) (t := 33) ?hr ?_; (case hd => rfl); (case hg => rfl); (case hr => first | (go_simp; done) | (go_simp; rfl)); intro gb145 hg w80 hbox hb; have n0_ := Aside0.mk (Kd.R_below (Kd.R_elderB (by (with_reducible repeat (first | apply Kd.R_alloc | apply Kd.R_drewN | apply Kd.R_drew)); exact HO_139002.out) gb145 (Nat.le_of_eq hg.symm)) hb); have n1_ := Aside0.mk (blk_below (g := gb131) (o := .cells #[.int .i64 a0_0, .int .i64 a0_1, .slice A0_2 l0_2.length c0_2, .int .i64 a0_3] 26 (0, 0)) (by (with_reducible repeat (first | refine blk_drewN ?_ _ | refine blk_drew ?_ | refine blk_alloc ?_ _)); exact BK131.out) hb); have n2_ := Aside0.mk (blk_below (g := gb132) (o := .cells #[.int .i64 a1_0, .int .i64 a1_1] 23 (0, 0)) (by (with_reducible repeat (first | refine blk_drewN ?_ _ | refine blk_drew ?_ | refine blk_alloc ?_ _)); exact BK132.out) hb); have n3_ := Aside0.mk (blk_below (g := gb133) (o := .cells #[.int .i64 x134000_2, .int .i64 x134001_2, .slice none 0 0, .int .i64 x134003_2] 26 (0, 0)) (by (with_reducible repeat (first | refine blk_drewN ?_ _ | refine blk_drew ?_ | refine blk_alloc ?_ _)); exact BK133.out) hb); have n4_ := Aside0.mk (blk_below (g := gb138) (o := .cells #[.int .i64 a0_0, .int .i64 a0_1, u139002, .int .i64 a0_3] 26 (0, 0)) (by (with_reducible repeat (first | refine blk_drewN ?_ _ | refine blk_drew ?_ | refine blk_alloc ?_ _)); exact BK138.out) hb); have n5_ := Aside0.mk (below_step (by repeat (first | (with_reducible first | exact HB.out | apply below_alloc | apply pw_below_drewN | apply below_drew1 | refine below_set ?_ GE131.out | refine below_set ?_ GE132.out | refine below_set ?_ GE133.out | refine below_set ?_ GE138.out) | exact HB.out)) hb); have n6_ := Aside0.mk (hbox); have n7_ := Aside0.mk ((by rw [hg]; exact (below_size (by repeat (first | (with_reducible first | exact HB.out | apply below_alloc | apply pw_below_drewN | apply below_drew1 | refine below_set ?_ GE131.out | refine below_set ?_ GE132.out | refine below_set ?_ GE133.out | refine below_set ?_ GE138.out) | exact HB.out))) : w.heap.size ≤ gb145)); have n8_ := Aside0.mk ((by rw [hg]; exact (below_size (by repeat (first | (with_reducible first | exact HB.out | apply below_alloc | apply pw_below_drewN | apply below_drew1 | refine below_set ?_ GE131.out | refine below_set ?_ GE132.out | refine below_set ?_ GE133.out | refine below_set ?_ GE138.out) | exact HB.out))) : w.heap.size ≤ gb145)); have n9_ := Aside0.mk ((by rw [hg]; exact Nat.ne_of_lt (blk_lt (g := gb131) (o := .cells #[.int .i64 a0_0, .int .i64 a0_1, .slice A0_2 l0_2.length c0_2, .int .i64 a0_3] 26 (0, 0)) (by (with_reducible repeat (first | refine blk_drewN ?_ _ | refine blk_drew ?_ | refine blk_alloc ?_ _)); exact BK131.out)) : gb131 ≠ gb145)); have n10_ := Aside0.mk ((by rw [hg]; exact Nat.ne_of_gt (blk_lt (g := gb131) (o := .cells #[.int .i64 a0_0, .int .i64 a0_1, .slice A0_2 l0_2.length c0_2, .int .i64 a0_3] 26 (0, 0)) (by (with_reducible repeat (first | refine blk_drewN ?_ _ | refine blk_drew ?_ | refine blk_alloc ?_ _)); exact BK131.out)) : gb145 ≠ gb131)); have n11_ := Aside0.mk ((by rw [hg]; exact Nat.ne_of_lt (blk_lt (g := gb132) (o := .cells #[.int .i64 a1_0, .int .i64 a1_1] 23 (0, 0)) (by (with_reducible repeat (first | refine blk_drewN ?_ _ | refine blk_drew ?_ | refine blk_alloc ?_ _)); exact BK132.out)) : gb132 ≠ gb145)); have n12_ := Aside0.mk ((by rw [hg]; exact Nat.ne_of_gt (blk_lt (g := gb132) (o := .cells #[.int .i64 a1_0, .int .i64 a1_1] 23 (0, 0)) (by (with_reducible repeat (first | refine blk_drewN ?_ _ | refine blk_drew ?_ | refine blk_alloc ?_ _)); exact BK132.out)) : gb145 ≠ gb132)); have n13_ := Aside0.mk ((by rw [hg]; exact Nat.ne_of_lt (blk_lt (g := gb133) (o := .cells #[.int .i64 x134000_2, .int .i64 x134001_2, .slice none 0 0, .int .i64 x134003_2] 26 (0, 0)) (by (with_reducible repeat (first | refine blk_drewN ?_ _ | refine blk_drew ?_ | refine blk_alloc ?_ _)); exact BK133.out)) : gb133 ≠ gb145)); have n14_ := Aside0.mk ((by rw [hg]; exact Nat.ne_of_gt (blk_lt (g := gb133) (o := .cells #[.int .i64 x134000_2, .int .i64 x134001_2, .slice none 0 0, .int .i64 x134003_2] 26 (0, 0)) (by (with_reducible repeat (first | refine blk_drewN ?_ _ | refine blk_drew ?_ | refine blk_alloc ?_ _)); exact BK133.out)) : gb145 ≠ gb133)); have n15_ := Aside0.mk ((by rw [hg]; exact Nat.ne_of_lt (blk_lt (g := gb138) (o := .cells #[.int .i64 a0_0, .int .i64 a0_1, u139002, .int .i64 a0_3] 26 (0, 0)) (by (with_reducible repeat (first | refine blk_drewN ?_ _ | refine blk_drew ?_ | refine blk_alloc ?_ _)); exact BK138.out)) : gb138 ≠ gb145)); have n16_ := Aside0.mk ((by rw [hg]; exact Nat.ne_of_gt (blk_lt (g := gb138) (o := .cells #[.int .i64 a0_0, .int .i64 a0_1, u139002, .int .i64 a0_3] 26 (0, 0)) (by (with_reducible repeat (first | refine blk_drewN ?_ _ | refine blk_drew ?_ | refine blk_alloc ?_ _)); exact BK138.out)) : gb145 ≠ gb138)); clear HO_139002; clear BK131; clear BK132; clear BK133; clear BK138; clear HB; have HO_139002 := n0_; have BK131 := n1_; have BK132 := n2_; have BK133 := n3_; have BK138 := n4_; have HB := n5_; have BK145 := n6_; have GW145 := n7_; have GE145 := n8_; have NB131_145 := n9_; have NB145_131 := n10_; have NB132_145 := n11_; have NB145_132 := n12_; have NB133_145 := n13_; have NB145_133 := n14_; have NB138_145 := n15_; have NB145_138 := n16_; clear n0_ n1_ n2_ n3_ n4_ n5_ n6_ n7_ n8_ n9_ n10_ n11_ n12_ n13_ n14_ n15_ n16_; clear hb hbox hg; have hnb81 := NB145_131.out; have hnc81 := NB131_145.out; have hnb82 := NB145_132.out; have hnc82 := NB132_145.out; have hnb83 := NB145_133.out; have hnc83 := NB133_145.out; have hnb84 := NB145_138.out; have hnc84 := NB138_145.out; have hcz85_0 : w80.cell? ⟨gb145, 0, none⟩ = some (.int .i64 0) := (blk_cell BK145.out 0).trans rfl; have hcz85_1 : w80.cell? ⟨gb145, 1, none⟩ = some (.int .i64 0) := (blk_cell BK145.out 1).trans rfl; have hcz85_2 : w80.cell? ⟨gb145, 2, none⟩ = some (.string (⟨#[]⟩ : ByteArray)) := (blk_cell BK145.out 2).trans rfl; have hfz85_0 := blk_frozen BK145.out 0; have hfz85_1 := blk_frozen BK145.out 1; have hfz85_2 := blk_frozen BK145.out 2; have hnb86 := NB132_131.out; have hnc86 := NB131_132.out; have hnb87 := NB132_133.out; have hnc87 := NB133_132.out; have hnb88 := NB132_138.out; have hnc88 := NB138_132.out; have hcz89_0 : w80.cell? ⟨gb132, 0, none⟩ = some (.int .i64 a1_0) := (blk_cell BK132.out 0).trans rfl; have hcz89_1 : w80.cell? ⟨gb132, 1, none⟩ = some (.int .i64 a1_1) := (blk_cell BK132.out 1).trans rfl; have hfz89_0 := blk_frozen BK132.out 0; have hfz89_1 := blk_frozen BK132.out 1; have hnb90 := NB131_133.out; have hnc90 := NB133_131.out; have hnb91 := NB131_138.out; have hnc91 := NB138_131.out; have hcz92_0 : w80.cell? ⟨gb131, 0, none⟩ = some (.int .i64 a0_0) := (blk_cell BK131.out 0).trans rfl; have hcz92_1 : w80.cell? ⟨gb131, 1, none⟩ = some (.int .i64 a0_1) := (blk_cell BK131.out 1).trans rfl; have hcz92_2 : w80.cell? ⟨gb131, 2, none⟩ = some (.slice A0_2 l0_2.length c0_2) := (blk_cell BK131.out 2).trans rfl; have hcz92_3 : w80.cell? ⟨gb131, 3, none⟩ = some (.int .i64 a0_3) := (blk_cell BK131.out 3).trans rfl; have hfz92_0 := blk_frozen BK131.out 0; have hfz92_1 := blk_frozen BK131.out 1; have hfz92_2 := blk_frozen BK131.out 2; have hfz92_3 := blk_frozen BK131.out 3))
                            go_roundg k2
                            case measure => have := HJ13.out; have := HK2.out; omega
                            case rel => exact ⟨(wrap64 (x72_2 + 1)), (x134000_2), (x134001_2), (x134003_2), (x139002_2), (u139002), (by first | rfl | (simp; done) | (simp [*]; done)), H', ⟨by have := HJ13.out; have := HK2.out; omega⟩, ⟨by (with_reducible repeat (first | apply Kd.R_alloc | apply Kd.R_drewN | apply Kd.R_drew)); exact Kd.R_mono (Kd.R_far (p := ⟨gb145, 2, none⟩) (Kd.R_far (p := ⟨gb145, 1, none⟩) (Kd.R_far (p := ⟨gb145, 0, none⟩) (Kd.R_mono HO_139002.out (fun k_ hk => (⟨hk, hk.2⟩ : _ ∧ k_ ≠ gb145))) (fun _ hk => hk.2) (.int .i64 ((rd_T33 l2 x72_2).f0))) (fun _ hk => hk.2) (.int .i64 ((rd_T33 l2 x72_2).f1))) (fun _ hk => hk.2) (.string ((rd_T33 l2 x72_2).f2))) (fun _ hk => trivial)⟩, ⟨by (with_reducible repeat (first | refine blk_drewN ?_ _ | refine blk_drew ?_ | refine blk_alloc ?_ _)); refine blk_far ?_ NB131_145.out _; (with_reducible repeat (first | refine blk_drewN ?_ _ | refine blk_drew ?_ | refine blk_alloc ?_ _)); refine blk_far ?_ NB131_145.out _; (with_reducible repeat (first | refine blk_drewN ?_ _ | refine blk_drew ?_ | refine blk_alloc ?_ _)); refine blk_far ?_ NB131_145.out _; (with_reducible repeat (first | refine blk_drewN ?_ _ | refine blk_drew ?_ | refine blk_alloc ?_ _)); exact BK131.out⟩, ⟨by (with_reducible repeat (first | refine blk_drewN ?_ _ | refine blk_drew ?_ | refine blk_alloc ?_ _)); refine blk_far ?_ NB132_145.out _; (with_reducible repeat (first | refine blk_drewN ?_ _ | refine blk_drew ?_ | refine blk_alloc ?_ _)); refine blk_far ?_ NB132_145.out _; (with_reducible repeat (first | refine blk_drewN ?_ _ | refine blk_drew ?_ | refine blk_alloc ?_ _)); refine blk_far ?_ NB132_145.out _; (with_reducible repeat (first | refine blk_drewN ?_ _ | refine blk_drew ?_ | refine blk_alloc ?_ _)); exact BK132.out⟩, ⟨by (with_reducible repeat (first | refine blk_drewN ?_ _ | refine blk_drew ?_ | refine blk_alloc ?_ _)); refine blk_far ?_ NB133_145.out _; (with_reducible repeat (first | refine blk_drewN ?_ _ | refine blk_drew ?_ | refine blk_alloc ?_ _)); refine blk_far ?_ NB133_145.out _; (with_reducible repeat (first | refine blk_drewN ?_ _ | refine blk_drew ?_ | refine blk_alloc ?_ _)); refine blk_far ?_ NB133_145.out _; (with_reducible repeat (first | refine blk_drewN ?_ _ | refine blk_drew ?_ | refine blk_alloc ?_ _)); exact BK133.out⟩, ⟨by (with_reducible repeat (first | refine blk_drewN ?_ _ | refine blk_drew ?_ | refine blk_alloc ?_ _)); refine blk_far ?_ NB138_145.out _; (with_reducible repeat (first | refine blk_drewN ?_ _ | refine blk_drew ?_ | refine blk_alloc ?_ _)); refine blk_far ?_ NB138_145.out _; (with_reducible repeat (first | refine blk_drewN ?_ _ | refine blk_drew ?_ | refine blk_alloc ?_ _)); refine blk_far ?_ NB138_145.out _; (with_reducible repeat (first | refine blk_drewN ?_ _ | refine blk_drew ?_ | refine blk_alloc ?_ _)); exact BK138.out⟩, ⟨by repeat (first | (with_reducible first | exact HB.out | apply below_alloc | apply pw_below_drewN | apply below_drew1 | refine below_set ?_ GE131.out | refine below_set ?_ GE132.out | refine below_set ?_ GE133.out | refine below_set ?_ GE138.out | refine below_set ?_ GE145.out) | exact HB.out)⟩⟩
                          · rw [if_neg c79] at H
                            have c79b0 : decide ((wrap64 ((wrap64 (a1_0 + 1)) + x72_2)) ≤ a0_0) = false := decide_eq_false c79
                            clear c79
                            replace H := Option.bind_eq_some_iff.mp H
                            obtain ⟨⟨t146, t147⟩, A930, H⟩ := H
                            replace H : (if t147 = true then (entries_Accept.j2 k2 l2 a3 x72_2 (wrap64 ((wrap64 (a1_0 + 1)) + x72_2)) l2 (l2.length : Int) x72_2 (t146 == ((rd_T33 l2 x72_2).f0)) a0_0 a0_1 l0_2 a0_3 a1_0 a1_1 a0_0 a0_1 x139002_2 a0_3) else (entries_Accept.j2 k2 l2 a3 x72_2 (wrap64 ((wrap64 (a1_0 + 1)) + x72_2)) l2 (l2.length : Int) x72_2 false a0_0 a0_1 l0_2 a0_3 a1_0 a1_1 a0_0 a0_1 x139002_2 a0_3)) = some (r1, r2, r3, r4, r5, r6, r7) := H
                            have A93 := Aside0.mk A930
                            clear A930
                            have HC94 := Aside0.mk H
                            clear H
                            have p144 : 0 ≤ (x72_2 : Int) := of_decide_eq_true (by first | (with_reducible assumption) | assumption)
                            have q144 : x72_2 < (l2.length : Int) := of_decide_eq_true (by first | (with_reducible assumption) | assumption)
                            obtain ⟨ad144, e144, hx144_0, hx144_1, hx144_2⟩ := at_T33 HR2.out x72_2 p144 q144
                            cases e144
                            replace hx144_0 := (HB.out.cell (World.block_lt_of_cell? w _ hx144_0)).trans hx144_0
                            replace hx144_1 := (HB.out.cell (World.block_lt_of_cell? w _ hx144_1)).trans hx144_1
                            replace hx144_2 := (HB.out.cell (World.block_lt_of_cell? w _ hx144_2)).trans hx144_2
                            replace p144 := eq_true p144
                            replace q144 := eq_true q144
                            go_upto_region 17 with (first | go_step3 | (simp only [Exit.noGoto_normal, Exit.noGoto_exit, Exit.noGoto_ret]) | ((with_reducible refine gate_dst (N := 16) rfl ?_); refine box_event ?hg (N := 16) ?hd (cs := #[.int .i64 0, .int .i64 0, .string (⟨#[]⟩ : ByteArray)]) (t := 33) ?hr ?_; (case hd => rfl); (case hg => rfl); (case hr => first | (go_simp; done) | (go_simp; rfl)); intro gb145 hg w95 hbox hb; have n0_ := Aside0.mk (Kd.R_below (Kd.R_elderB (by (with_reducible repeat (first | apply Kd.R_alloc | apply Kd.R_drewN | apply Kd.R_drew)); exact HO_139002.out) gb145 (Nat.le_of_eq hg.symm)) hb); have n1_ := Aside0.mk (blk_below (g := gb131) (o := .cells #[.int .i64 a0_0, .int .i64 a0_1, .slice A0_2 l0_2.length c0_2, .int .i64 a0_3] 26 (0, 0)) (by (with_reducible repeat (first | refine blk_drewN ?_ _ | refine blk_drew ?_ | refine blk_alloc ?_ _)); exact BK131.out) hb); have n2_ := Aside0.mk (blk_below (g := gb132) (o := .cells #[.int .i64 a1_0, .int .i64 a1_1] 23 (0, 0)) (by (with_reducible repeat (first | refine blk_drewN ?_ _ | refine blk_drew ?_ | refine blk_alloc ?_ _)); exact BK132.out) hb); have n3_ := Aside0.mk (blk_below (g := gb133) (o := .cells #[.int .i64 x134000_2, .int .i64 x134001_2, .slice none 0 0, .int .i64 x134003_2] 26 (0, 0)) (by (with_reducible repeat (first | refine blk_drewN ?_ _ | refine blk_drew ?_ | refine blk_alloc ?_ _)); exact BK133.out) hb); have n4_ := Aside0.mk (blk_below (g := gb138) (o := .cells #[.int .i64 a0_0, .int .i64 a0_1, u139002, .int .i64 a0_3] 26 (0, 0)) (by (with_reducible repeat (first | refine blk_drewN ?_ _ | refine blk_drew ?_ | refine blk_alloc ?_ _)); exact BK138.out) hb); have n5_ := Aside0.mk (below_step (by repeat (first | (with_reducible first | exact HB.out | apply below_alloc | apply pw_below_drewN | apply below_drew1 | refine below_set ?_ GE131.out | refine below_set ?_ GE132.out | refine below_set ?_ GE133.out | refine below_set ?_ GE138.out) | exact HB.out)) hb); have n6_ := Aside0.mk (hbox); have n7_ := Aside0.mk ((by rw [hg]; exact (below_size (by repeat (first | (with_reducible first | exact HB.out | apply below_alloc | apply pw_below_drewN | apply below_drew1 | refine below_set ?_ GE131.out | refine below_set ?_ GE132.out | refine below_set ?_ GE133.out | refine below_set ?_ GE138.out) | exact HB.out))) : w.heap.size ≤ gb145)); have n8_ := Aside0.mk ((by rw [hg]; exact (below_size (by repeat (first | (with_reducible first | exact HB.out | apply below_alloc | apply pw_below_drewN | apply below_drew1 | refine below_set ?_ GE131.out | refine below_set ?_ GE132.out | refine below_set ?_ GE133.out | refine below_set ?_ GE138.out) | exact HB.out))) : w.heap.size ≤ gb145)); have n9_ := Aside0.mk ((by rw [hg]; exact Nat.ne_of_lt (blk_lt (g := gb131) (o := .cells #[.int .i64 a0_0, .int .i64 a0_1, .slice A0_2 l0_2.length c0_2, .int .i64 a0_3] 26 (0, 0)) (by (with_reducible repeat (first | refine blk_drewN ?_ _ | refine blk_drew ?_ | refine blk_alloc ?_ _)); exact BK131.out)) : gb131 ≠ gb145)); have n10_ := Aside0.mk ((by rw [hg]; exact Nat.ne_of_gt (blk_lt (g := gb131) (o := .cells #[.int .i64 a0_0, .int .i64 a0_1, .slice A0_2 l0_2.length c0_2, .int .i64 a0_3] 26 (0, 0)) (by (with_reducible repeat (first | refine blk_drewN ?_ _ | refine blk_drew ?_ | refine blk_alloc ?_ _)); exact BK131.out)) : gb145 ≠ gb131)); have n11_ := Aside0.mk ((by rw [hg]; exact Nat.ne_of_lt (blk_lt (g := gb132) (o := .cells #[.int .i64 a1_0, .int .i64 a1_1] 23 (0, 0)) (by (with_reducible repeat (first | refine blk_drewN ?_ _ | refine blk_drew ?_ | refine blk_alloc ?_ _)); exact BK132.out)) : gb132 ≠ gb145)); have n12_ := Aside0.mk ((by rw [hg]; exact Nat.ne_of_gt (blk_lt (g := gb132) (o := .cells #[.int .i64 a1_0, .int .i64 a1_1] 23 (0, 0)) (by (with_reducible repeat (first | refine blk_drewN ?_ _ | refine blk_drew ?_ | refine blk_alloc ?_ _)); exact BK132.out)) : gb145 ≠ gb132)); have n13_ := Aside0.mk ((by rw [hg]; exact Nat.ne_of_lt (blk_lt (g := gb133) (o := .cells #[.int .i64 x134000_2, .int .i64 x134001_2, .slice none 0 0, .int .i64 x134003_2] 26 (0, 0)) (by (with_reducible repeat (first | refine blk_drewN ?_ _ | refine blk_drew ?_ | refine blk_alloc ?_ _)); exact BK133.out)) : gb133 ≠ gb145)); have n14_ := Aside0.mk ((by rw [hg]; exact Nat.ne_of_gt (blk_lt (g := gb133) (o := .cells #[.int .i64 x134000_2, .int .i64 x134001_2, .slice none 0 0, .int .i64 x134003_2] 26 (0, 0)) (by (with_reducible repeat (first | refine blk_drewN ?_ _ | refine blk_drew ?_ | refine blk_alloc ?_ _)); exact BK133.out)) : gb145 ≠ gb133)); have n15_ := Aside0.mk ((by rw [hg]; exact Nat.ne_of_lt (blk_lt (g := gb138) (o := .cells #[.int .i64 a0_0, .int .i64 a0_1, u139002, .int .i64 a0_3] 26 (0, 0)) (by (with_reducible repeat (first | refine blk_drewN ?_ _ | refine blk_drew ?_ | refine blk_alloc ?_ _)); exact BK138.out)) : gb138 ≠ gb145)); have n16_ := Aside0.mk ((by rw [hg]; exact Nat.ne_of_gt (blk_lt (g := gb138) (o := .cells #[.int .i64 a0_0, .int .i64 a0_1, u139002, .int .i64 a0_3] 26 (0, 0)) (by (with_reducible repeat (first | refine blk_drewN ?_ _ | refine blk_drew ?_ | refine blk_alloc ?_ _)); exact BK138.out)) : gb145 ≠ gb138)); clear HO_139002; clear BK131; clear BK132; clear BK133; clear BK138; clear HB; have HO_139002 := n0_; have BK131 := n1_; have BK132 := n2_; have BK133 := n3_; have BK138 := n4_; have HB := n5_; have BK145 := n6_; have GW145 := n7_; have GE145 := n8_; have NB131_145 := n9_; have NB145_131 := n10_; have NB132_145 := n11_; have NB145_132 := n12_; have NB133_145 := n13_; have NB145_133 := n14_; have NB138_145 := n15_; have NB145_138 := n16_; clear n0_ n1_ n2_ n3_ n4_ n5_ n6_ n7_ n8_ n9_ n10_ n11_ n12_ n13_ n14_ n15_ n16_; clear hb hbox hg; have hnb96 := NB145_131.out; have hnc96 := NB131_145.out; have hnb97 := NB145_132.out; have hnc97 := NB132_145.out; have hnb98 := NB145_133.out; have hnc98 := NB133_145.out; have hnb99 := NB145_138.out; have hnc99 := NB138_145.out; have hcz100_0 : w95.cell? ⟨gb145, 0, none⟩ = some (.int .i64 0) := (blk_cell BK145.out 0).trans rfl; have hcz100_1 : w95.cell? ⟨gb145, 1, none⟩ = some (.int .i64 0) := (blk_cell BK145.out 1).trans rfl; have hcz100_2 : w95.cell? ⟨gb145, 2, none⟩ = some (.string (⟨#[]⟩ : ByteArray)) := (blk_cell BK145.out 2).trans rfl; have hfz100_0 := blk_frozen BK145.out 0; have hfz100_1 := blk_frozen BK145.out 1; have hfz100_2 := blk_frozen BK145.out 2; have hnb101 := NB132_131.out; have hnc101 := NB131_132.out; have hnb102 := NB132_133.out; have hnc102 := NB133_132.out; have hnb103 := NB132_138.out; have hnc103 := NB138_132.out; have hcz104_0 : w95.cell? ⟨gb132, 0, none⟩ = some (.int .i64 a1_0) := (blk_cell BK132.out 0).trans rfl; have hcz104_1 : w95.cell? ⟨gb132, 1, none⟩ = some (.int .i64 a1_1) := (blk_cell BK132.out 1).trans rfl; have hfz104_0 := blk_frozen BK132.out 0; have hfz104_1 := blk_frozen BK132.out 1; have hnb105 := NB131_133.out; have hnc105 := NB133_131.out; have hnb106 := NB131_138.out; have hnc106 := NB138_131.out; have hcz107_0 : w95.cell? ⟨gb131, 0, none⟩ = some (.int .i64 a0_0) := (blk_cell BK131.out 0).trans rfl; have hcz107_1 : w95.cell? ⟨gb131, 1, none⟩ = some (.int .i64 a0_1) := (blk_cell BK131.out 1).trans rfl; have hcz107_2 : w95.cell? ⟨gb131, 2, none⟩ = some (.slice A0_2 l0_2.length c0_2) := (blk_cell BK131.out 2).trans rfl; have hcz107_3 : w95.cell? ⟨gb131, 3, none⟩ = some (.int .i64 a0_3) := (blk_cell BK131.out 3).trans rfl; have hfz107_0 := blk_frozen BK131.out 0; have hfz107_1 := blk_frozen BK131.out 1; have hfz107_2 := blk_frozen BK131.out 2; have hfz107_3 := blk_frozen BK131.out 3) | ((with_reducible refine gate_callee (f := 27) rfl ?_); refine goesL_ (some 90) rfl rfl Try.func27 (by kernel_rfl) rfl #[.agg #[.int .i64 a0_0, .int .i64 a0_1, .slice A0_2 l0_2.length c0_2, .int .i64 a0_3], .int .i64 (wrap64 ((wrap64 (a1_0 + 1)) + x72_2))] rfl (by (try simp only [List.map_toArray, List.map_cons, List.map_nil]); first | done | rfl | (simp only [List.length_drop, List.length_take]; rfl)) ?_; (with_reducible refine (entries_TermAt.calls k2 a0_0 a0_1 _ _ l0_2 a0_3 (wrap64 ((wrap64 (a1_0 + 1)) + x72_2)) t146 t147 _ ?side1 ?side2 A93.out).mono ?_); (case side1 => exact Kd.C_below HR0_2.out (by repeat (first | (with_reducible first | exact HB.out | apply below_alloc | apply pw_below_drewN | apply below_drew1 | refine below_set ?_ GE131.out | refine below_set ?_ GE132.out | refine below_set ?_ GE133.out | refine below_set ?_ GE138.out | refine below_set ?_ GE145.out) | exact HB.out))); (case side2 => exact HC0_2.out); rintro e w108 ⟨rfl, hb⟩; refine ⟨_, rfl, ?_⟩; have n0_ := Aside0.mk (Kd.R_below (by (with_reducible repeat (first | apply Kd.R_alloc | apply Kd.R_drewN | apply Kd.R_drew)); exact (Kd.R_mono (Kd.R_far (p := ⟨gb145, 2, none⟩) (Kd.R_far (p := ⟨gb145, 1, none⟩) (Kd.R_far (p := ⟨gb145, 0, none⟩) (Kd.R_mono HO_139002.out (fun k_ hk => (⟨hk, hk.2⟩ : _ ∧ k_ ≠ gb145))) (fun _ hk => hk.2) (.int .i64 ((rd_T33 l2 x72_2).f0))) (fun _ hk => hk.2) (.int .i64 ((rd_T33 l2 x72_2).f1))) (fun _ hk => hk.2) (.string ((rd_T33 l2 x72_2).f2))) (fun _ h_ => h_.1))) hb); have n1_ := Aside0.mk (blk_below (g := gb131) (o := .cells #[.int .i64 a0_0, .int .i64 a0_1, .slice A0_2 l0_2.length c0_2, .int .i64 a0_3] 26 (0, 0)) (by (with_reducible repeat (first | refine blk_drewN ?_ _ | refine blk_drew ?_ | refine blk_alloc ?_ _)); refine blk_far ?_ NB131_145.out _; (with_reducible repeat (first | refine blk_drewN ?_ _ | refine blk_drew ?_ | refine blk_alloc ?_ _)); refine blk_far ?_ NB131_145.out _; (with_reducible repeat (first | refine blk_drewN ?_ _ | refine blk_drew ?_ | refine blk_alloc ?_ _)); refine blk_far ?_ NB131_145.out _; (with_reducible repeat (first | refine blk_drewN ?_ _ | refine blk_drew ?_ | refine blk_alloc ?_ _)); exact BK131.out) hb); have n2_ := Aside0.mk (blk_below (g := gb132) (o := .cells #[.int .i64 a1_0, .int .i64 a1_1] 23 (0, 0)) (by (with_reducible repeat (first | refine blk_drewN ?_ _ | refine blk_drew ?_ | refine blk_alloc ?_ _)); refine blk_far ?_ NB132_145.out _; (with_reducible repeat (first | refine blk_drewN ?_ _ | refine blk_drew ?_ | refine blk_alloc ?_ _)); refine blk_far ?_ NB132_145.out _; (with_reducible repeat (first | refine blk_drewN ?_ _ | refine blk_drew ?_ | refine blk_alloc ?_ _)); refine blk_far ?_ NB132_145.out _; (with_reducible repeat (first | refine blk_drewN ?_ _ | refine blk_drew ?_ | refine blk_alloc ?_ _)); exact BK132.out) hb); have n3_ := Aside0.mk (blk_below (g := gb133) (o := .cells #[.int .i64 x134000_2, .int .i64 x134001_2, .slice none 0 0, .int .i64 x134003_2] 26 (0, 0)) (by (with_reducible repeat (first | refine blk_drewN ?_ _ | refine blk_drew ?_ | refine blk_alloc ?_ _)); refine blk_far ?_ NB133_145.out _; (with_reducible repeat (first | refine blk_drewN ?_ _ | refine blk_drew ?_ | refine blk_alloc ?_ _)); refine blk_far ?_ NB133_145.out _; (with_reducible repeat (first | refine blk_drewN ?_ _ | refine blk_drew ?_ | refine blk_alloc ?_ _)); refine blk_far ?_ NB133_145.out _; (with_reducible repeat (first | refine blk_drewN ?_ _ | refine blk_drew ?_ | refine blk_alloc ?_ _)); exact BK133.out) hb); have n4_ := Aside0.mk (blk_below (g := gb138) (o := .cells #[.int .i64 a0_0, .int .i64 a0_1, u139002, .int .i64 a0_3] 26 (0, 0)) (by (with_reducible repeat (first | refine blk_drewN ?_ _ | refine blk_drew ?_ | refine blk_alloc ?_ _)); refine blk_far ?_ NB138_145.out _; (with_reducible repeat (first | refine blk_drewN ?_ _ | refine blk_drew ?_ | refine blk_alloc ?_ _)); refine blk_far ?_ NB138_145.out _; (with_reducible repeat (first | refine blk_drewN ?_ _ | refine blk_drew ?_ | refine blk_alloc ?_ _)); refine blk_far ?_ NB138_145.out _; (with_reducible repeat (first | refine blk_drewN ?_ _ | refine blk_drew ?_ | refine blk_alloc ?_ _)); exact BK138.out) hb); have n5_ := Aside0.mk (blk_below (g := gb145) (o := .cells #[.int .i64 ((rd_T33 l2 x72_2).f0), .int .i64 ((rd_T33 l2 x72_2).f1), .string ((rd_T33 l2 x72_2).f2)] 33 (0, 0)) (by (with_reducible repeat (first | refine blk_drewN ?_ _ | refine blk_drew ?_ | refine blk_alloc ?_ _)); refine blk_put (cs := #[.int .i64 ((rd_T33 l2 x72_2).f0), .int .i64 ((rd_T33 l2 x72_2).f1), .string (⟨#[]⟩ : ByteArray)]) ?_ 2 _ rfl; (with_reducible repeat (first | refine blk_drewN ?_ _ | refine blk_drew ?_ | refine blk_alloc ?_ _)); refine blk_put (cs := #[.int .i64 ((rd_T33 l2 x72_2).f0), .int .i64 0, .string (⟨#[]⟩ : ByteArray)]) ?_ 1 _ rfl; (with_reducible repeat (first | refine blk_drewN ?_ _ | refine blk_drew ?_ | refine blk_alloc ?_ _)); refine blk_put (cs := #[.int .i64 0, .int .i64 0, .string (⟨#[]⟩ : ByteArray)]) ?_ 0 _ rfl; (with_reducible repeat (first | refine blk_drewN ?_ _ | refine blk_drew ?_ | refine blk_alloc ?_ _)); exact BK145.out) hb); have n6_ := Aside0.mk (below_step (by repeat (first | (with_reducible first | exact HB.out | apply below_alloc | apply pw_below_drewN | apply below_drew1 | refine below_set ?_ GE131.out | refine below_set ?_ GE132.out | refine below_set ?_ GE133.out | refine below_set ?_ GE138.out | refine below_set ?_ GE145.out) | exact HB.out)) hb); clear HO_139002; clear BK131; clear BK132; clear BK133; clear BK138; clear BK145; clear HB; have HO_139002 := n0_; have BK131 := n1_; have BK132 := n2_; have BK133 := n3_; have BK138 := n4_; have BK145 := n5_; have HB := n6_; clear n0_ n1_ n2_ n3_ n4_ n5_ n6_; (try clear hb); (try clear hb2); (try clear hk); (try clear hi)))
                            (try simp only [Act.put, List.setIfInBounds_toArray, List.set_cons_zero, List.set_cons_succ])
                            go_cut [99] (fun v99 wc => ∃ (kq : Nat) (x99_93 : Bool), v99 = .bool x99_93 ∧ Aside0 (entries_Accept.j2 kq l2 a3 x72_2 (wrap64 ((wrap64 (a1_0 + 1)) + x72_2)) l2 (l2.length : Int) x72_2 x99_93 a0_0 a0_1 l0_2 a0_3 a1_0 a1_1 a0_0 a0_1 x139002_2 a0_3 = some (r1, r2, r3, r4, r5, r6, r7)) ∧ Aside0 (kq ≤ k2) ∧ Aside0 (Kd.R k33 33 wc w.heap.size (fun k_ => k_ ≠ gb145) u139002 x139002_2) ∧ Aside0 (wc.heap[gb131]? = some (.cells #[.int .i64 a0_0, .int .i64 a0_1, (.slice A0_2 l0_2.length c0_2), .int .i64 a0_3] 26 (0, 0))) ∧ Aside0 (wc.heap[gb132]? = some (.cells #[.int .i64 a1_0, .int .i64 a1_1] 23 (0, 0))) ∧ Aside0 (wc.heap[gb133]? = some (.cells #[.int .i64 x134000_2, .int .i64 x134001_2, (.slice none 0 0), .int .i64 x134003_2] 26 (0, 0))) ∧ Aside0 (wc.heap[gb138]? = some (.cells #[.int .i64 a0_0, .int .i64 a0_1, u139002, .int .i64 a0_3] 26 (0, 0))) ∧ Aside0 (wc.heap[gb145]? = some (.cells #[.int .i64 ((rd_T33 l2 x72_2).f0), .int .i64 ((rd_T33 l2 x72_2).f1), .string ((rd_T33 l2 x72_2).f2)] 33 (0, 0))) ∧ Aside0 (Below w.heap.size w wc))
                            case first =>
                              have H := HC94.out
                              clear HC94
                              by_cases c109 : t147 = true
                              · subst c109
                                have H1 : (entries_Accept.j2 k2 l2 a3 x72_2 (wrap64 ((wrap64 (a1_0 + 1)) + x72_2)) l2 (l2.length : Int) x72_2 (t146 == ((rd_T33 l2 x72_2).f0)) a0_0 a0_1 l0_2 a0_3 a1_0 a1_1 a0_0 a0_1 x139002_2 a0_3) = some (r1, r2, r3, r4, r5, r6, r7) := by rw [if_pos rfl] at H; exact H
                                clear H
                                have H := H1
                                clear H1
                                have H' := Aside0.mk H
                                clear H
                                have hnb110 := NB145_131.out
                                have hnc110 := NB131_145.out
                                have hnb111 := NB145_132.out
                                have hnc111 := NB132_145.out
                                have hnb112 := NB145_133.out
                                have hnc112 := NB133_145.out
                                have hnb113 := NB145_138.out
                                have hnc113 := NB138_145.out
                                have hcz114_0 : w108.cell? ⟨gb145, 0, none⟩ = some (.int .i64 ((rd_T33 l2 x72_2).f0)) := (blk_cell BK145.out 0).trans rfl
                                have hcz114_1 : w108.cell? ⟨gb145, 1, none⟩ = some (.int .i64 ((rd_T33 l2 x72_2).f1)) := (blk_cell BK145.out 1).trans rfl
                                have hcz114_2 : w108.cell? ⟨gb145, 2, none⟩ = some (.string ((rd_T33 l2 x72_2).f2)) := (blk_cell BK145.out 2).trans rfl
                                have hfz114_0 := blk_frozen BK145.out 0
                                have hfz114_1 := blk_frozen BK145.out 1
                                have hfz114_2 := blk_frozen BK145.out 2
                                go_wp2_with (first | go_step3 | (simp only [Exit.noGoto_normal, Exit.noGoto_exit, Exit.noGoto_ret]))
                                go_meet
                                case rel => exact ⟨_, ((t146 == ((rd_T33 l2 x72_2).f0))), (by first | rfl | (simp; done) | (simp [*]; done)), H', ⟨by have := HJ13.out; have := HK2.out; first | omega | exact Nat.le_refl _⟩, ⟨by (with_reducible repeat (first | apply Kd.R_alloc | apply Kd.R_drewN | apply Kd.R_drew)); exact Kd.R_mono HO_139002.out (fun _ hk => hk.2)⟩, ⟨by (with_reducible repeat (first | refine blk_drewN ?_ _ | refine blk_drew ?_ | refine blk_alloc ?_ _)); exact BK131.out⟩, ⟨by (with_reducible repeat (first | refine blk_drewN ?_ _ | refine blk_drew ?_ | refine blk_alloc ?_ _)); exact BK132.out⟩, ⟨by (with_reducible repeat (first | refine blk_drewN ?_ _ | refine blk_drew ?_ | refine blk_alloc ?_ _)); exact BK133.out⟩, ⟨by (with_reducible repeat (first | refine blk_drewN ?_ _ | refine blk_drew ?_ | refine blk_alloc ?_ _)); exact BK138.out⟩, ⟨by (with_reducible repeat (first | refine blk_drewN ?_ _ | refine blk_drew ?_ | refine blk_alloc ?_ _)); exact BK145.out⟩, ⟨by repeat (first | (with_reducible first | exact HB.out | apply below_alloc | apply pw_below_drewN | apply below_drew1 | refine below_set ?_ GE131.out | refine below_set ?_ GE132.out | refine below_set ?_ GE133.out | refine below_set ?_ GE138.out | refine below_set ?_ GE145.out) | exact HB.out)⟩⟩
                              · replace c109 := Bool.eq_false_iff.mpr c109
                                subst c109
                                have H1 : (entries_Accept.j2 k2 l2 a3 x72_2 (wrap64 ((wrap64 (a1_0 + 1)) + x72_2)) l2 (l2.length : Int) x72_2 false a0_0 a0_1 l0_2 a0_3 a1_0 a1_1 a0_0 a0_1 x139002_2 a0_3) = some (r1, r2, r3, r4, r5, r6, r7) := by rw [if_neg (show ¬ (false = true) by decide)] at H; exact H
                                clear H
                                have H := H1
                                clear H1
                                have H' := Aside0.mk H
                                clear H
                                go_wp2_with (first | go_step3 | (simp only [Exit.noGoto_normal, Exit.noGoto_exit, Exit.noGoto_ret]))
                                go_meet
                                case rel => exact ⟨_, (false), (by first | rfl | (simp; done) | (simp [*]; done)), H', ⟨by have := HJ13.out; have := HK2.out; first | omega | exact Nat.le_refl _⟩, ⟨by (with_reducible repeat (first | apply Kd.R_alloc | apply Kd.R_drewN | apply Kd.R_drew)); exact Kd.R_mono HO_139002.out (fun _ hk => hk.2)⟩, ⟨by (with_reducible repeat (first | refine blk_drewN ?_ _ | refine blk_drew ?_ | refine blk_alloc ?_ _)); exact BK131.out⟩, ⟨by (with_reducible repeat (first | refine blk_drewN ?_ _ | refine blk_drew ?_ | refine blk_alloc ?_ _)); exact BK132.out⟩, ⟨by (with_reducible repeat (first | refine blk_drewN ?_ _ | refine blk_drew ?_ | refine blk_alloc ?_ _)); exact BK133.out⟩, ⟨by (with_reducible repeat (first | refine blk_drewN ?_ _ | refine blk_drew ?_ | refine blk_alloc ?_ _)); exact BK138.out⟩, ⟨by (with_reducible repeat (first | refine blk_drewN ?_ _ | refine blk_drew ?_ | refine blk_alloc ?_ _)); exact BK145.out⟩, ⟨by repeat (first | (with_reducible first | exact HB.out | apply below_alloc | apply pw_below_drewN | apply below_drew1 | refine below_set ?_ GE131.out | refine below_set ?_ GE132.out | refine below_set ?_ GE133.out | refine below_set ?_ GE138.out | refine below_set ?_ GE145.out) | exact HB.out)⟩⟩
                            case rest =>
                              clear HC94
                              try clear c2
                              try clear c6
                              try clear c6b0
                              try clear c6b1
                              try clear c8
                              try clear c10
                              try clear c12
                              try clear c76
                              try clear c76b0
                              try clear c77
                              try clear c77b0
                              try clear c78
                              try clear c78b0
                              try clear c79
                              try clear c79b0
                              try clear hcz100_0
                              try clear hcz100_1
                              try clear hcz100_2
                              try clear hcz104_0
                              try clear hcz104_1
                              try clear hcz107_0
                              try clear hcz107_1
                              try clear hcz107_2
                              try clear hcz107_3
                              try clear hcz20_0
                              try clear hcz20_1
                              try clear hcz20_2
                              try clear hcz20_3
                              try clear hcz23_0
                              try clear hcz23_1
                              try clear hcz25_0
                              try clear hcz25_1
                              try clear hcz27_0
                              try clear hcz27_1
                              try clear hcz27_2
                              try clear hcz27_3
                              try clear hcz32_0
                              try clear hcz32_1
                              try clear hcz32_2
                              try clear hcz32_3
                              try clear hcz33_0
                              try clear hcz33_1
                              try clear hcz33_2
                              try clear hcz33_3
                              try clear hcz36_0
                              try clear hcz36_1
                              try clear hcz36_2
                              try clear hcz36_3
                              try clear hcz37_0
                              try clear hcz37_1
                              try clear hcz38_0
                              try clear hcz38_1
                              try clear hcz38_2
                              try clear hcz38_3
                              try clear hfz100_0
                              try clear hfz100_1
                              try clear hfz100_2
                              try clear hfz104_0
                              try clear hfz104_1
                              try clear hfz107_0
                              try clear hfz107_1
                              try clear hfz107_2
                              try clear hfz107_3
                              try clear hfz20_0
                              try clear hfz20_1
                              try clear hfz20_2
                              try clear hfz20_3
                              try clear hfz23_0
                              try clear hfz23_1
                              try clear hfz25_0
                              try clear hfz25_1
                              try clear hfz27_0
                              try clear hfz27_1
                              try clear hfz27_2
                              try clear hfz27_3
                              try clear hfz32_0
                              try clear hfz32_1
                              try clear hfz32_2
                              try clear hfz32_3
                              try clear hfz33_0
                              try clear hfz33_1
                              try clear hfz33_2
                              try clear hfz33_3
                              try clear hfz36_0
                              try clear hfz36_1
                              try clear hfz36_2
                              try clear hfz36_3
                              try clear hfz37_0
                              try clear hfz37_1
                              try clear hfz38_0
                              try clear hfz38_1
                              try clear hfz38_2
                              try clear hfz38_3
                              try clear hx144_0
                              try clear hx144_1
                              try clear hx144_2
                              try clear p144
                              try clear q144
                              obtain ⟨kq, x99_93, rfl, HA, HJ93, HO_139002, BK131, BK132, BK133, BK138, BK145, HB⟩ := hcut
                              cases kq with
                              | zero => exact absurd HA.out (by simp [entries_Accept.j2])
                              | succ kj93 =>
                                have H := HA.out
                                clear HA
                                simp only [entries_Accept.j2] at H
                                by_cases c115 : x99_93 = true
                                · subst c115
                                  have H1 : (entries_Accept.l0 kj93 l2 a3 l2 (l2.length : Int) (wrap64 (x72_2 + 1)) a0_0 a0_1 l0_2 a0_3 a1_0 a1_1 a0_0 a0_1 x139002_2 a0_3) = some (r1, r2, r3, r4, r5, r6, r7) := by rw [if_pos rfl] at H; exact H
                                  clear H
                                  have H := H1
                                  clear H1
                                  have H' := Aside0.mk H
                                  clear H
                                  go_wp2_with (first | go_step3 | (simp only [Exit.noGoto_normal, Exit.noGoto_exit, Exit.noGoto_ret]))
                                  go_roundg kj93
                                  case measure => have := HJ13.out; have := HK2.out; have := HJ93.out; omega
                                  case rel => exact ⟨(wrap64 (x72_2 + 1)), (x134000_2), (x134001_2), (x134003_2), (x139002_2), (u139002), (by first | rfl | (simp; done) | (simp [*]; done)), H', ⟨by have := HJ13.out; have := HK2.out; have := HJ93.out; omega⟩, ⟨by (with_reducible repeat (first | apply Kd.R_alloc | apply Kd.R_drewN | apply Kd.R_drew)); exact Kd.R_mono HO_139002.out (fun _ hk => trivial)⟩, ⟨by (with_reducible repeat (first | refine blk_drewN ?_ _ | refine blk_drew ?_ | refine blk_alloc ?_ _)); exact BK131.out⟩, ⟨by (with_reducible repeat (first | refine blk_drewN ?_ _ | refine blk_drew ?_ | refine blk_alloc ?_ _)); exact BK132.out⟩, ⟨by (with_reducible repeat (first | refine blk_drewN ?_ _ | refine blk_drew ?_ | refine blk_alloc ?_ _)); exact BK133.out⟩, ⟨by (with_reducible repeat (first | refine blk_drewN ?_ _ | refine blk_drew ?_ | refine blk_alloc ?_ _)); exact BK138.out⟩, ⟨by repeat (first | (with_reducible first | exact HB.out | apply below_alloc | apply pw_below_drewN | apply below_drew1 | refine below_set ?_ GE131.out | refine below_set ?_ GE132.out | refine below_set ?_ GE133.out | refine below_set ?_ GE138.out | refine below_set ?_ GE145.out) | exact HB.out)⟩⟩
                                · replace c115 := Bool.eq_false_iff.mpr c115
                                  subst c115
                                  have H1 : (if (wrap64 ((wrap64 (a1_0 + 1)) + x72_2)) ≤ a0_3 then (some (0, 0, ([] : List (S33)), 0, 0, false, 80)) else (if 0 ≤ (wrap64 ((wrap64 ((wrap64 ((wrap64 (a1_0 + 1)) + x72_2)) - a0_0)) - 1)) then (if (wrap64 ((wrap64 ((wrap64 ((wrap64 (a1_0 + 1)) + x72_2)) - a0_0)) - 1)) ≤ (x139002_2.length : Int) then ((some (x139002_2.take ((wrap64 ((wrap64 ((wrap64 ((wrap64 (a1_0 + 1)) + x72_2)) - a0_0)) - 1)) : Int).toNat : List (S33))).bind fun y148 => (if 0 ≤ x72_2 then (if x72_2 ≤ (l2.length : Int) then ((some (l2.drop (x72_2 : Int).toNat : List (S33))).bind fun y151 => (if y148.length + y151.length < 4398046511104 then (entries_Accept.j3 kj93 l2 a3 a0_0 a0_1 l0_2 a0_3 a1_0 a1_1 a0_0 a0_1 (y148 ++ y151) a0_3) else (none))) else (none)) else (none))) else (none)) else (none))) = some (r1, r2, r3, r4, r5, r6, r7) := by rw [if_neg (show ¬ (false = true) by decide)] at H; exact H
                                  clear H
                                  have H := H1
                                  clear H1
                                  by_cases c116 : (wrap64 ((wrap64 (a1_0 + 1)) + x72_2)) ≤ a0_3
                                  · rw [if_pos c116] at H
                                    have c116b0 : decide ((wrap64 ((wrap64 (a1_0 + 1)) + x72_2)) ≤ a0_3) = true := decide_eq_true c116
                                    clear c116
                                    simp only [Option.some.injEq, Prod.mk.injEq] at H
                                    obtain ⟨rfl, rfl, rfl, rfl, rfl, rfl, rfl⟩ := H
                                    have hnb117 := NB131_132.out
                                    have hnc117 := NB132_131.out
                                    have hnb118 := NB131_133.out
                                    have hnc118 := NB133_131.out
                                    have hnb119 := NB131_138.out
                                    have hnc119 := NB138_131.out
                                    have hnb120 := NB131_145.out
                                    have hnc120 := NB145_131.out
                                    have hcz121_0 : wc.cell? ⟨gb131, 0, none⟩ = some (.int .i64 a0_0) := (blk_cell BK131.out 0).trans rfl
                                    have hcz121_1 : wc.cell? ⟨gb131, 1, none⟩ = some (.int .i64 a0_1) := (blk_cell BK131.out 1).trans rfl
                                    have hcz121_2 : wc.cell? ⟨gb131, 2, none⟩ = some (.slice A0_2 l0_2.length c0_2) := (blk_cell BK131.out 2).trans rfl
                                    have hcz121_3 : wc.cell? ⟨gb131, 3, none⟩ = some (.int .i64 a0_3) := (blk_cell BK131.out 3).trans rfl
                                    have hfz121_0 := blk_frozen BK131.out 0
                                    have hfz121_1 := blk_frozen BK131.out 1
                                    have hfz121_2 := blk_frozen BK131.out 2
                                    have hfz121_3 := blk_frozen BK131.out 3
                                    have hnb122 := NB133_132.out
                                    have hnc122 := NB132_133.out
                                    have hnb123 := NB133_138.out
                                    have hnc123 := NB138_133.out
                                    have hnb124 := NB133_145.out
                                    have hnc124 := NB145_133.out
                                    have hcz125_0 : wc.cell? ⟨gb133, 0, none⟩ = some (.int .i64 x134000_2) := (blk_cell BK133.out 0).trans rfl
                                    have hcz125_1 : wc.cell? ⟨gb133, 1, none⟩ = some (.int .i64 x134001_2) := (blk_cell BK133.out 1).trans rfl
                                    have hcz125_2 : wc.cell? ⟨gb133, 2, none⟩ = some (.slice none 0 0) := (blk_cell BK133.out 2).trans rfl
                                    have hcz125_3 : wc.cell? ⟨gb133, 3, none⟩ = some (.int .i64 x134003_2) := (blk_cell BK133.out 3).trans rfl
                                    have hfz125_0 := blk_frozen BK133.out 0
                                    have hfz125_1 := blk_frozen BK133.out 1
                                    have hfz125_2 := blk_frozen BK133.out 2
                                    have hfz125_3 := blk_frozen BK133.out 3
                                    go_wp2_with (first | go_step3 | (simp only [Exit.noGoto_normal, Exit.noGoto_exit, Exit.noGoto_ret]))
                                    refine bodyPost_ret (results_list (rs := [.cell 8 26, .tmp 9, .tmp 10, .tmp 11]) rfl (by simp) (.cell gb133 26 #[.int .i64 0, .int .i64 0, .slice none 0 0, .int .i64 0] (0, 0) _ rfl (by (with_reducible repeat (first | refine blk_drewN ?_ _ | refine blk_drew ?_ | refine blk_alloc ?_ _)); refine blk_put (cs := #[.int .i64 0, .int .i64 0, .slice none 0 0, .int .i64 x134003_2]) ?_ 3 _ rfl; (with_reducible repeat (first | refine blk_drewN ?_ _ | refine blk_drew ?_ | refine blk_alloc ?_ _)); refine blk_put (cs := #[.int .i64 0, .int .i64 0, .slice none 0 0, .int .i64 x134003_2]) ?_ 2 _ rfl; (with_reducible repeat (first | refine blk_drewN ?_ _ | refine blk_drew ?_ | refine blk_alloc ?_ _)); refine blk_put (cs := #[.int .i64 0, .int .i64 x134001_2, .slice none 0 0, .int .i64 x134003_2]) ?_ 1 _ rfl; (with_reducible repeat (first | refine blk_drewN ?_ _ | refine blk_drew ?_ | refine blk_alloc ?_ _)); refine blk_put (cs := #[.int .i64 x134000_2, .int .i64 x134001_2, .slice none 0 0, .int .i64 x134003_2]) ?_ 0 _ rfl; (with_reducible repeat (first | refine blk_drewN ?_ _ | refine blk_drew ?_ | refine blk_alloc ?_ _)); exact BK133.out) Try.underlying26 rfl (by kernel_rfl) (.tmp (.tmp (.tmp .nil))))) rfl ?_
                                    exact ⟨_, by first | rfl | (simp [errW_none, errW_some] <;> rfl) | (simp [*, errW_none, errW_some] <;> rfl), by first | exact Kd.R_nil _ _ _ _ _ | exact Kd.N_nil _ _ _ _ _ | exact Kd.V_nil _ _ _ _ _ | exact Kd.Q_nil _ _ _ _ _ | exact Kd.S_nil _ _ _ _ _, by repeat (first | (with_reducible first | exact HB.out | apply below_alloc | apply pw_below_drewN | apply below_drew1 | refine below_set ?_ GE131.out | refine below_set ?_ GE132.out | refine below_set ?_ GE133.out | refine below_set ?_ GE138.out | refine below_set ?_ GE145.out) | exact HB.out)⟩
                                  · rw [if_neg c116] at H
                                    have c116b0 : decide ((wrap64 ((wrap64 (a1_0 + 1)) + x72_2)) ≤ a0_3) = false := decide_eq_false c116
                                    clear c116
                                    obtain ⟨ji126, hji126⟩ : ∃ j_ : Int, (wrap64 ((wrap64 ((wrap64 ((wrap64 (a1_0 + 1)) + x72_2)) - a0_0)) - 1)) = j_ := ⟨_, rfl⟩
                                    replace H : (if 0 ≤ (ji126) then (if (ji126) ≤ (x139002_2.length : Int) then ((some (x139002_2.take ((ji126) : Int).toNat : List (S33))).bind fun y148 => (if 0 ≤ x72_2 then (if x72_2 ≤ (l2.length : Int) then ((some (l2.drop (x72_2 : Int).toNat : List (S33))).bind fun y151 => (if y148.length + y151.length < 4398046511104 then (entries_Accept.j3 kj93 l2 a3 a0_0 a0_1 l0_2 a0_3 a1_0 a1_1 a0_0 a0_1 (y148 ++ y151) a0_3) else (none))) else (none)) else (none))) else (none)) else (none)) = some (r1, r2, r3, r4, r5, r6, r7) := by first | (rw [hji126] at H; exact H) | (simp only [hji126] at H ⊢; exact H)
                                    have hji126w : (IntKind.i64.wrap ((wrap64 ((wrap64 ((wrap64 (a1_0 + 1)) + x72_2)) - a0_0)) - 1)) = ji126 := (i64_w _).trans hji126
                                    by_cases c127 : 0 ≤ (ji126)
                                    · rw [if_pos c127] at H
                                      have c127b0 := eq_true c127
                                      have c127b1 : decide (0 ≤ (ji126)) = true := decide_eq_true c127
                                      clear c127
                                      by_cases c128 : (ji126) ≤ (x139002_2.length : Int)
                                      · rw [if_pos c128] at H
                                        have c128b0 := eq_true c128
                                        have c128b1 : decide ((ji126) ≤ (x139002_2.length : Int)) = true := decide_eq_true c128
                                        clear c128
                                        obtain ⟨y148, hy148⟩ : ∃ y_ : List (S33), y_ = (x139002_2.take ((ji126) : Int).toNat) := ⟨_, rfl⟩
                                        replace H : (if 0 ≤ x72_2 then (if x72_2 ≤ (l2.length : Int) then ((some (l2.drop (x72_2 : Int).toNat : List (S33))).bind fun y151 => (if y148.length + y151.length < 4398046511104 then (entries_Accept.j3 kj93 l2 a3 a0_0 a0_1 l0_2 a0_3 a1_0 a1_1 a0_0 a0_1 (y148 ++ y151) a0_3) else (none))) else (none)) else (none)) = some (r1, r2, r3, r4, r5, r6, r7) := by first | (rw [hy148]; with_reducible exact H) | (have H2_ := (Option.bind_some _ _).symm.trans H; rw [hy148]; with_reducible exact H2_) | (have H2_ := (Option.bind_some _ _).symm.trans H; with_reducible exact H2_) | with_reducible exact H | (rw [hy148]; exact H) | exact H
                                        have Ny148 := Aside0.mk hy148
                                        clear hy148
                                        by_cases c129 : 0 ≤ x72_2
                                        · rw [if_pos c129] at H
                                          have c129b0 := eq_true c129
                                          have c129b1 : decide (0 ≤ x72_2) = true := decide_eq_true c129
                                          clear c129
                                          by_cases c130 : x72_2 ≤ (l2.length : Int)
                                          · rw [if_pos c130] at H
                                            have c130b0 := eq_true c130
                                            have c130b1 : decide (x72_2 ≤ (l2.length : Int)) = true := decide_eq_true c130
                                            clear c130
                                            obtain ⟨y151, hy151⟩ : ∃ y_ : List (S33), y_ = (l2.drop (x72_2 : Int).toNat) := ⟨_, rfl⟩
                                            replace H : (if y148.length + y151.length < 4398046511104 then (entries_Accept.j3 kj93 l2 a3 a0_0 a0_1 l0_2 a0_3 a1_0 a1_1 a0_0 a0_1 (y148 ++ y151) a0_3) else (none)) = some (r1, r2, r3, r4, r5, r6, r7) := by first | (rw [hy151]; with_reducible exact H) | (have H2_ := (Option.bind_some _ _).symm.trans H; rw [hy151]; with_reducible exact H2_) | (have H2_ := (Option.bind_some _ _).symm.trans H; with_reducible exact H2_) | with_reducible exact H | (rw [hy151]; exact H) | exact H
                                            have Ny151 := Aside0.mk hy151
                                            clear hy151
                                            by_cases c131 : y148.length + y151.length < 4398046511104
                                            · rw [if_pos c131] at H
                                              have LMc131 := Aside0.mk c131
                                              clear c131
                                              obtain ⟨y155, hy155⟩ : ∃ y_ : List (S33), y_ = (y148 ++ y151) := ⟨_, rfl⟩
                                              replace H : (entries_Accept.j3 kj93 l2 a3 a0_0 a0_1 l0_2 a0_3 a1_0 a1_1 a0_0 a0_1 y155 a0_3) = some (r1, r2, r3, r4, r5, r6, r7) := by first | (rw [hy155]; with_reducible exact H) | (have H2_ := (Option.bind_some _ _).symm.trans H; rw [hy155]; with_reducible exact H2_) | (have H2_ := (Option.bind_some _ _).symm.trans H; with_reducible exact H2_) | with_reducible exact H | (rw [hy155]; exact H) | exact H
                                              have Ny155 := Aside0.mk hy155
                                              clear hy155
                                              have H' := Aside0.mk H
                                              clear H
                                              have hnb132 := NB131_132.out
                                              have hnc132 := NB132_131.out
                                              have hnb133 := NB131_133.out
                                              have hnc133 := NB133_131.out
                                              have hnb134 := NB131_138.out
                                              have hnc134 := NB138_131.out
                                              have hnb135 := NB131_145.out
                                              have hnc135 := NB145_131.out
                                              have hcz136_0 : wc.cell? ⟨gb131, 0, none⟩ = some (.int .i64 a0_0) := (blk_cell BK131.out 0).trans rfl
                                              have hcz136_1 : wc.cell? ⟨gb131, 1, none⟩ = some (.int .i64 a0_1) := (blk_cell BK131.out 1).trans rfl
                                              have hcz136_2 : wc.cell? ⟨gb131, 2, none⟩ = some (.slice A0_2 l0_2.length c0_2) := (blk_cell BK131.out 2).trans rfl
                                              have hcz136_3 : wc.cell? ⟨gb131, 3, none⟩ = some (.int .i64 a0_3) := (blk_cell BK131.out 3).trans rfl
                                              have hfz136_0 := blk_frozen BK131.out 0
                                              have hfz136_1 := blk_frozen BK131.out 1
                                              have hfz136_2 := blk_frozen BK131.out 2
                                              have hfz136_3 := blk_frozen BK131.out 3
                                              try go_wp2_with (first | go_step3 | (simp only [Exit.noGoto_normal, Exit.noGoto_exit, Exit.noGoto_ret]))
                                              have n0_ := Aside0.mk (Kd.R_drew HO_139002.out)
                                              have n1_ := Aside0.mk (blk_drew BK131.out)
                                              have n2_ := Aside0.mk (blk_drew BK132.out)
                                              have n3_ := Aside0.mk (blk_drew BK133.out)
                                              have n4_ := Aside0.mk (blk_drew BK138.out)
                                              have n5_ := Aside0.mk (blk_drew BK145.out)
                                              have n6_ := Aside0.mk (below_drew1 HB.out)
                                              clear HO_139002
                                              clear BK131
                                              clear BK132
                                              clear BK133
                                              clear BK138
                                              clear BK145
                                              clear HB
                                              have HO_139002 := n0_
                                              have BK131 := n1_
                                              have BK132 := n2_
                                              have BK133 := n3_
                                              have BK138 := n4_
                                              have BK145 := n5_
                                              have HB := n6_
                                              clear n0_ n1_ n2_ n3_ n4_ n5_ n6_
                                              obtain ⟨Ao138, co138, eo138⟩ := Kd.R_slice HO_139002.out
                                              (first | subst eo138 | (injection eo138 with f1_ f2_ f3_; have f4_ := f1_.symm; have f5_ := f3_.symm; clear f1_ f2_ f3_; subst f4_; subst f5_))
                                              have q139 : ((ji126) : Int) ≤ ((x139002_2.length : Int) : Int) := of_decide_eq_true (by first | (with_reducible assumption) | assumption)
                                              obtain ⟨i0139, hi0139, _, hsz139, _⟩ := info_parts info33
                                              have hcut139 := cut_to (P := Try.prog) 24 33 .i64 Try.underlying24 hi0139 Ao138 x139002_2.length co138 (ji126) (of_decide_eq_true (by first | (with_reducible assumption) | assumption)) q139 (Kd.R_reads' HO_139002.out).2.1
                                              have hr139 := Kd.R_take (m := ((ji126) : Int).toNat) HO_139002.out (by omega)
                                              have hy139 : y148.length = ((ji126) : Int).toNat := (by rw [Ny148.out, List.length_take]; omega)
                                              rw [← Ny148.out] at hr139
                                              rw [← hy139] at hr139 hcut139
                                              clear hy139 hi0139 hsz139 HO_139002
                                              have HO150 := Aside0.mk hr139
                                              clear hr139
                                              replace q139 := eq_true q139
                                              have q140 : (x72_2 : Int) ≤ ((l2.length : Int) : Int) := of_decide_eq_true (by first | (with_reducible assumption) | assumption)
                                              obtain ⟨i0140, hi0140, _, hsz140, _⟩ := info_parts info33
                                              have hroom140 : l2.length ≤ c2 := HC2.out
                                              have hC140 : Kd.C k33 _ (some ad144) l2.length l2 := HR2.out
                                              have q0140 : (0 : Int) ≤ (x72_2 : Int) := of_decide_eq_true (by first | (with_reducible assumption) | assumption)
                                              have hcut140 := cut_from (P := Try.prog) 24 33 .i64 Try.underlying24 hi0140 3 hsz140 (some ad144) l2.length c2 x72_2 q0140 q140
                                              have hr140 := Kd.C_drop (m := (x72_2 : Int).toNat) (c := c2) hC140 (by omega) hroom140
                                              obtain ⟨A140, hA140⟩ : ∃ A1, A1 = (if c2 = (x72_2 : Int).toNat then (some ad144) else ((some ad144) : Option Addr).map (·.add ((x72_2 : Int).toNat * 3))) := ⟨_, rfl⟩
                                              obtain ⟨c140, hc140⟩ : ∃ c1, c1 = c2 - (x72_2 : Int).toNat := ⟨_, rfl⟩
                                              have hy140 : y151.length = l2.length - (x72_2 : Int).toNat := (by rw [Ny151.out, List.length_drop] <;> omega)
                                              rw [show (l2).drop (x72_2 : Int).toNat = y151 from Ny151.out.symm] at hr140
                                              replace hr140 : Kd.C k33 _ A140 y151.length y151 := (by rw [hA140]; exact hr140)
                                              rw [← hy140, ← hA140, ← hc140] at hcut140
                                              have HR154 := Aside0.mk hr140
                                              have HC154 := Aside0.mk (show y151.length ≤ c140 from by rw [hy140, hc140]; exact Nat.sub_le_sub_right hroom140 _)
                                              clear hr140 hC140 hroom140 hi0140 hsz140 hc140
                                              have KY140 := Aside0.mk hy140
                                              have KA140 := Aside0.mk hA140
                                              clear hy140 hA140
                                              replace q140 := eq_true q140
                                              refine start_ (n := 15) (S := fun w' => w'.cell? ⟨gb138, 0, none⟩ = some (.int .i64 a0_0) ∧ w'.cell? ⟨gb138, 1, none⟩ = some (.int .i64 a0_1) ∧ w'.cell? ⟨gb138, 2, none⟩ = some (.slice Ao138 x139002_2.length co138) ∧ w'.cell? ⟨gb138, 3, none⟩ = some (.int .i64 a0_3) ∧ w'.cell? ⟨gb131, 0, none⟩ = some (.int .i64 a0_0) ∧ w'.cell? ⟨gb131, 1, none⟩ = some (.int .i64 a0_1) ∧ w'.cell? ⟨gb131, 2, none⟩ = some (.slice A0_2 l0_2.length c0_2) ∧ w'.cell? ⟨gb131, 3, none⟩ = some (.int .i64 a0_3)) (ds := [14]) #[false, false, false, false, false, false, false, false, false, false, false, false, false, false, false] (by kernel_rfl) rfl rfl ⟨(blk_cell BK138.out 0).trans rfl, (blk_cell BK138.out 1).trans rfl, (blk_cell BK138.out 2).trans rfl, (blk_cell BK138.out 3).trans rfl, (blk_cell BK131.out 0).trans rfl, (blk_cell BK131.out 1).trans rfl, (blk_cell BK131.out 2).trans rfl, (blk_cell BK131.out 3).trans rfl⟩ (fun hHeld => ?_); refine with_tabW entries_Accept.tab20 entries_Accept.bits20 (fun HT_ HW_ => ?_)
                                              generalize wc.drew = w137 at HO_139002 BK131 BK132 BK133 BK138 BK145 HB HO150 HR154 hHeld ⊢
                                              refine stepP HT_ 0 (some 105) ?_
                                              refine stepP HT_ 2 (some 107) ?_
                                              refine stepP HT_ 3 (some 108) ?_
                                              refine stepP HT_ 4 (some 109) ?_
                                              refine stepP HT_ 9 (some 114) ?_
                                              refine stepP HT_ 10 (some 115) ?_
                                              refine stepP HT_ 11 (some 116) ?_
                                              refine stepT8 HT_ HW_ 1 (some 106) hHeld ?_
                                              refine stepT8 HT_ HW_ 5 (some 110) hHeld ?_
                                              refine stepP HT_ 6 (some 111) ?_
                                              refine stepP HT_ 7 (some 112) ?_
                                              refine stepP HT_ 8 (some 113) ?_
                                              refine one_ (i := 12) (N := some 117) #[true, true, true, true, true, true, true, true, true, true, true, true, true, false, false] rfl rfl (one_of HT_.out (by kernel_rfl)) (by decide) (fun K hK => ?_)
                                              refine Kd.R_append_rows_step k33 (w0 := w) w.heap.size (by rfl) (.tmp 113) (.tmp 116) 24 33 (.agg #[(.int .i64 0), (.int .i64 0), (.string ⟨#[]⟩)]) 32 rfl Try.underlying24 info33 rfl (by decide) (by omega) (.slice Ao138 y148.length co138) y148 y151 _ _ _ (fun k_ => k_ ≠ gb145) (fun _ => False) rfl rfl ?aO ?aR (fun _ _ h => h) (fun _ h => h.elim) ?aF ?aB ?aS ?aL ?_
                                              (case aR => repeat (first | exact (Kd.C_below HR154.out HB.out) | (with_reducible refine Kd.C_alloc ?_ _) | (with_reducible refine Kd.C_drewN ?_ _) | (with_reducible refine Kd.C_drew ?_)))
                                              (case aB => exact (by repeat (first | (with_reducible first | exact HB.out | apply below_alloc | apply pw_below_drewN | apply below_drew1 | refine below_set ?_ GE131.out | refine below_set ?_ GE132.out | refine below_set ?_ GE133.out | refine below_set ?_ GE138.out | refine below_set ?_ GE145.out) | exact HB.out)))
                                              (case aF => exact (fun k_ hk => Kd.freshB (g := gb145) (o := .cells #[.int .i64 ((rd_T33 l2 x72_2).f0), .int .i64 ((rd_T33 l2 x72_2).f1), .string ((rd_T33 l2 x72_2).f2)] 33 (0, 0)) (by (with_reducible repeat (first | refine blk_drewN ?_ _ | refine blk_drew ?_ | refine blk_alloc ?_ _)); exact BK145.out) k_ hk))
                                              (case aO => exact (by (with_reducible repeat (first | apply Kd.R_alloc | apply Kd.R_drewN | apply Kd.R_drew)); exact HO150.out))
                                              (case aS => exact (below_size (by repeat (first | (with_reducible first | exact HB.out | apply below_alloc | apply pw_below_drewN | apply below_drew1 | refine below_set ?_ GE131.out | refine below_set ?_ GE132.out | refine below_set ?_ GE133.out | refine below_set ?_ GE138.out | refine below_set ?_ GE145.out) | exact HB.out))))
                                              (case aL => have := LMc131.out; omega)
                                              intro v156 w141 ho hb hg hat
                                              rw [← Ny155.out] at ho
                                              have n0_ := Aside0.mk (blk_grown (g := gb131) (o := .cells #[.int .i64 a0_0, .int .i64 a0_1, .slice A0_2 l0_2.length c0_2, .int .i64 a0_3] 26 (0, 0)) (by (with_reducible repeat (first | refine blk_drewN ?_ _ | refine blk_drew ?_ | refine blk_alloc ?_ _)); exact BK131.out) hg (Kd.R_ne HO150.out BK131.out (by decide)))
                                              have n1_ := Aside0.mk (blk_grown (g := gb132) (o := .cells #[.int .i64 a1_0, .int .i64 a1_1] 23 (0, 0)) (by (with_reducible repeat (first | refine blk_drewN ?_ _ | refine blk_drew ?_ | refine blk_alloc ?_ _)); exact BK132.out) hg (Kd.R_ne HO150.out BK132.out (by decide)))
                                              have n2_ := Aside0.mk (blk_grown (g := gb133) (o := .cells #[.int .i64 x134000_2, .int .i64 x134001_2, .slice none 0 0, .int .i64 x134003_2] 26 (0, 0)) (by (with_reducible repeat (first | refine blk_drewN ?_ _ | refine blk_drew ?_ | refine blk_alloc ?_ _)); exact BK133.out) hg (Kd.R_ne HO150.out BK133.out (by decide)))
                                              have n3_ := Aside0.mk (blk_grown (g := gb138) (o := .cells #[.int .i64 a0_0, .int .i64 a0_1, .slice Ao138 x139002_2.length co138, .int .i64 a0_3] 26 (0, 0)) (by (with_reducible repeat (first | refine blk_drewN ?_ _ | refine blk_drew ?_ | refine blk_alloc ?_ _)); exact BK138.out) hg (Kd.R_ne HO150.out BK138.out (by decide)))
                                              have n4_ := Aside0.mk (blk_grown (g := gb145) (o := .cells #[.int .i64 ((rd_T33 l2 x72_2).f0), .int .i64 ((rd_T33 l2 x72_2).f1), .string ((rd_T33 l2 x72_2).f2)] 33 (0, 0)) (by (with_reducible repeat (first | refine blk_drewN ?_ _ | refine blk_drew ?_ | refine blk_alloc ?_ _)); exact BK145.out) hg (Kd.R_away HO150.out (fun _ hk => hk)))
                                              have n5_ := Aside0.mk (hb)
                                              have n6_ := Aside0.mk (ho)
                                              clear BK131
                                              clear BK132
                                              clear BK133
                                              clear BK138
                                              clear BK145
                                              clear HB
                                              clear HO150
                                              have BK131 := n0_
                                              have BK132 := n1_
                                              have BK133 := n2_
                                              have BK138 := n3_
                                              have BK145 := n4_
                                              have HB := n5_
                                              have HO157 := n6_
                                              clear n0_ n1_ n2_ n3_ n4_ n5_ n6_
                                              clear ho hb hg hat
                                              obtain ⟨Ao142, co142, eo142⟩ := Kd.R_slice HO157.out
                                              (first | subst eo142 | (injection eo142 with f1_ f2_ f3_; have f4_ := f1_.symm; have f5_ := f3_.symm; clear f1_ f2_ f3_; subst f4_; subst f5_))
                                              refine hK.out _ _ ⟨(blk_cell BK138.out 0).trans rfl, (blk_cell BK138.out 1).trans rfl, (blk_cell BK138.out 2).trans rfl, (blk_cell BK138.out 3).trans rfl, (blk_cell BK131.out 0).trans rfl, (blk_cell BK131.out 1).trans rfl, (blk_cell BK131.out 2).trans rfl, (blk_cell BK131.out 3).trans rfl⟩ (fun hHeld => ?_)
                                              clear hK K
                                              refine norm_ (a' := ?_) ?_ ?_
                                              rotate_left
                                              · show Act.put _ (some 117) _ = _
                                                simp only [Act.put, List.setIfInBounds_toArray, List.set_cons_zero, List.set_cons_succ, i64_w, i32_w]
                                                rfl
                                              refine stepP HT_ 13 (some 118) ?_
                                              refine last_ (i := 14) (N := none) #[true, true, true, true, true, true, true, true, true, true, true, true, true, true, true] rfl rfl (one_of HT_.out (by kernel_rfl)) (by decide) (fun K hK => ?_)
                                              have hs143 : w141.cell? ⟨gb138, 2, none⟩ = some (.slice Ao138 x139002_2.length co138) := (blk_cell BK138.out 2).trans rfl
                                              have hfs143 := blk_frozen BK138.out 2
                                              have hns143_0 := NB131_138.out
                                              have hns143_1 := NB132_138.out
                                              have hns143_2 := NB133_138.out
                                              have hns143_4 := NB145_138.out
                                              have hms143_0 := NB138_131.out
                                              have hms143_1 := NB138_132.out
                                              have hms143_2 := NB138_133.out
                                              have hms143_4 := NB138_145.out
                                              refine skip_ (w1 := ?_) (by rfl) rfl ?_ ?_
                                              rotate_left
                                              · go_simp
                                                rfl
                                              refine hK.out _ _ ?_
                                              clear hK K
                                              refine done_ (done_of HT_.out (by kernel_rfl)) ?_
                                              try go_wp2_with (first | go_step3 | (simp only [Exit.noGoto_normal, Exit.noGoto_exit, Exit.noGoto_ret]))
                                              go_meet
                                              case rel => exact ⟨_, (x134000_2), (x134001_2), (x134003_2), (y155), (.slice Ao142 y155.length co142), H', ⟨by have := HJ13.out; have := HK2.out; have := HJ93.out; first | omega | exact Nat.le_refl _⟩, ⟨by (with_reducible repeat (first | apply Kd.R_alloc | apply Kd.R_drewN | apply Kd.R_drew)); exact Kd.R_mono (Kd.R_far (p := ⟨gb138, 2, none⟩) (Kd.R_types HO157.out BK138.out (by decide)) (fun _ hk => hk.2) (.slice Ao142 y155.length co142)) (fun _ hk => trivial)⟩, ⟨by (with_reducible repeat (first | refine blk_drewN ?_ _ | refine blk_drew ?_ | refine blk_alloc ?_ _)); refine blk_far ?_ NB131_138.out _; (with_reducible repeat (first | refine blk_drewN ?_ _ | refine blk_drew ?_ | refine blk_alloc ?_ _)); exact BK131.out⟩, ⟨by (with_reducible repeat (first | refine blk_drewN ?_ _ | refine blk_drew ?_ | refine blk_alloc ?_ _)); refine blk_far ?_ NB132_138.out _; (with_reducible repeat (first | refine blk_drewN ?_ _ | refine blk_drew ?_ | refine blk_alloc ?_ _)); exact BK132.out⟩, ⟨by (with_reducible repeat (first | refine blk_drewN ?_ _ | refine blk_drew ?_ | refine blk_alloc ?_ _)); refine blk_far ?_ NB133_138.out _; (with_reducible repeat (first | refine blk_drewN ?_ _ | refine blk_drew ?_ | refine blk_alloc ?_ _)); exact BK133.out⟩, ⟨by (with_reducible repeat (first | refine blk_drewN ?_ _ | refine blk_drew ?_ | refine blk_alloc ?_ _)); refine blk_put (cs := #[.int .i64 a0_0, .int .i64 a0_1, .slice Ao138 x139002_2.length co138, .int .i64 a0_3]) ?_ 2 _ rfl; (with_reducible repeat (first | refine blk_drewN ?_ _ | refine blk_drew ?_ | refine blk_alloc ?_ _)); exact BK138.out⟩, ⟨by repeat (first | (with_reducible first | exact HB.out | apply below_alloc | apply pw_below_drewN | apply below_drew1 | refine below_set ?_ GE131.out | refine below_set ?_ GE132.out | refine below_set ?_ GE133.out | refine below_set ?_ GE138.out | refine below_set ?_ GE145.out) | exact HB.out)⟩⟩
                                            · rw [if_neg c131] at H
                                              exact absurd H (by simp)
                                          · rw [if_neg c130] at H
                                            exact absurd H (by simp)
                                        · rw [if_neg c129] at H
                                          exact absurd H (by simp)
                                      · rw [if_neg c128] at H
                                        exact absurd H (by simp)
                                    · rw [if_neg c127] at H
                                      exact absurd H (by simp)
                        · rw [if_neg c78] at H
                          exact absurd H (by simp)
                      · rw [if_neg c77] at H
                        exact absurd H (by simp)
                    · rw [if_neg c76] at H
                      have c76b0 : decide (x72_2 < (l2.length : Int)) = false := decide_eq_false c76
                      clear c76
                      (first | rw [c76b0] | (simp only [i64_w, i32_w]; rw [c76b0]) | skip)
                      have H' := Aside0.mk H
                      clear H
                      go_wp2_with (first | go_step3 | (simp only [Exit.noGoto_normal, Exit.noGoto_exit, Exit.noGoto_ret]))
                      go_meet
                      case rel => exact ⟨_, (x134000_2), (x134001_2), (x134003_2), (x139002_2), (u139002), H', ⟨by have := HJ13.out; have := HK2.out; first | omega | exact Nat.le_refl _⟩, ⟨by (with_reducible repeat (first | apply Kd.R_alloc | apply Kd.R_drewN | apply Kd.R_drew)); exact HO_139002.out⟩, ⟨by (with_reducible repeat (first | refine blk_drewN ?_ _ | refine blk_drew ?_ | refine blk_alloc ?_ _)); exact BK131.out⟩, ⟨by (with_reducible repeat (first | refine blk_drewN ?_ _ | refine blk_drew ?_ | refine blk_alloc ?_ _)); exact BK132.out⟩, ⟨by (with_reducible repeat (first | refine blk_drewN ?_ _ | refine blk_drew ?_ | refine blk_alloc ?_ _)); exact BK133.out⟩, ⟨by (with_reducible repeat (first | refine blk_drewN ?_ _ | refine blk_drew ?_ | refine blk_alloc ?_ _)); exact BK138.out⟩, ⟨by repeat (first | (with_reducible first | exact HB.out | apply below_alloc | apply pw_below_drewN | apply below_drew1 | refine below_set ?_ GE131.out | refine below_set ?_ GE132.out | refine below_set ?_ GE133.out | refine below_set ?_ GE138.out) | exact HB.out)⟩⟩
              case rest =>
                clear HC75
                try clear c2
                try clear c6
                try clear c8
                try clear c10
                try clear c12
                try clear hcz20_0
                try clear hcz20_1
                try clear hcz20_2
                try clear hcz20_3
                try clear hcz23_0
                try clear hcz23_1
                try clear hcz25_0
                try clear hcz25_1
                try clear hcz27_0
                try clear hcz27_1
                try clear hcz27_2
                try clear hcz27_3
                try clear hcz32_0
                try clear hcz32_1
                try clear hcz32_2
                try clear hcz32_3
                try clear hcz33_0
                try clear hcz33_1
                try clear hcz33_2
                try clear hcz33_3
                try clear hcz36_0
                try clear hcz36_1
                try clear hcz36_2
                try clear hcz36_3
                try clear hcz37_0
                try clear hcz37_1
                try clear hcz38_0
                try clear hcz38_1
                try clear hcz38_2
                try clear hcz38_3
                try clear hfz20_0
                try clear hfz20_1
                try clear hfz20_2
                try clear hfz20_3
                try clear hfz23_0
                try clear hfz23_1
                try clear hfz25_0
                try clear hfz25_1
                try clear hfz27_0
                try clear hfz27_1
                try clear hfz27_2
                try clear hfz27_3
                try clear hfz32_0
                try clear hfz32_1
                try clear hfz32_2
                try clear hfz32_3
                try clear hfz33_0
                try clear hfz33_1
                try clear hfz33_2
                try clear hfz33_3
                try clear hfz36_0
                try clear hfz36_1
                try clear hfz36_2
                try clear hfz36_3
                try clear hfz37_0
                try clear hfz37_1
                try clear hfz38_0
                try clear hfz38_1
                try clear hfz38_2
                try clear hfz38_3
                obtain ⟨kq, x134000_74, x134001_74, x134003_74, x139002_74, u139002, HA, HJ74, HO_139002, BK131, BK132, BK133, BK138, HB⟩ := hcut
                cases kq with
                | zero => exact absurd HA.out (by simp [entries_Accept.j3])
                | succ kj74 =>
                  have H := HA.out
                  clear HA
                  simp only [entries_Accept.j3] at H
                  replace H := Option.bind_eq_some_iff.mp H
                  obtain ⟨t158, A1440, H⟩ := H
                  replace H : (if t158 = true then (if (x139002_74.length : Int) > 400 then (some (0, 0, ([] : List (S33)), 0, 0, false, 2)) else ((entries_end.f a0_0 a0_1 x139002_74 a0_3).bind fun t159 => (if t159 > 1000000 then (some (0, 0, ([] : List (S33)), 0, 0, false, 2)) else (some (a0_0, a0_1, x139002_74, mx a0_3 (mn a3 (wrap64 (a1_0 + (l2.length : Int)))), mx (wrap64 (a1_0 + (l2.length : Int))) a0_0, true, 0))))) else (some (0, 0, ([] : List (S33)), 0, 0, false, 80))) = some (r1, r2, r3, r4, r5, r6, r7) := H
                  have A144 := Aside0.mk A1440
                  clear A1440
                  by_cases c145 : t158 = true
                  focus
                    subst c145
                    have H1 : (if (x139002_74.length : Int) > 400 then (some (0, 0, ([] : List (S33)), 0, 0, false, 2)) else ((entries_end.f a0_0 a0_1 x139002_74 a0_3).bind fun t159 => (if t159 > 1000000 then (some (0, 0, ([] : List (S33)), 0, 0, false, 2)) else (some (a0_0, a0_1, x139002_74, mx a0_3 (mn a3 (wrap64 (a1_0 + (l2.length : Int)))), mx (wrap64 (a1_0 + (l2.length : Int))) a0_0, true, 0))))) = some (r1, r2, r3, r4, r5, r6, r7) := by rw [if_pos rfl] at H; exact H
                    clear H
                    have H := H1
                    clear H1
                    by_cases c146 : (x139002_74.length : Int) > 400
                    focus
                      rw [if_pos c146] at H
                      have c146b0 : decide (400 < (x139002_74.length : Int)) = true := decide_eq_true c146
                      have c146b1 : decide (400 < x139002_74.length) = true := decide_eq_true (by omega)
                      clear c146
                    rotate_left 1
                    focus
                      rw [if_neg c146] at H
                      have c146b0 : decide (400 < (x139002_74.length : Int)) = false := decide_eq_false c146
                      have c146b1 : decide (400 < x139002_74.length) = false := decide_eq_false (by omega)
                      clear c146
                      replace H := Option.bind_eq_some_iff.mp H
                      obtain ⟨t159, A1590, H⟩ := H
                      replace H : (if t159 > 1000000 then (some (0, 0, ([] : List (S33)), 0, 0, false, 2)) else (some (a0_0, a0_1, x139002_74, mx a0_3 (mn a3 (wrap64 (a1_0 + (l2.length : Int)))), mx (wrap64 (a1_0 + (l2.length : Int))) a0_0, true, 0))) = some (r1, r2, r3, r4, r5, r6, r7) := H
                      have A159 := Aside0.mk A1590
                      clear A1590
                      by_cases c160 : t159 > 1000000
                      focus
                        rw [if_pos c160] at H
                        have c160b0 : decide (1000000 < t159) = true := decide_eq_true c160
                        clear c160
                      rotate_left 1
                      focus
                        rw [if_neg c160] at H
                        have c160b0 : decide (1000000 < t159) = false := decide_eq_false c160
                        clear c160
                        obtain ⟨ji174, hji174⟩ : ∃ j_ : Int, (mn a3 (wrap64 (a1_0 + (l2.length : Int)))) = j_ := ⟨_, rfl⟩
                        replace H : (some (a0_0, a0_1, x139002_74, mx a0_3 (ji174), mx (wrap64 (a1_0 + (l2.length : Int))) a0_0, true, 0)) = some (r1, r2, r3, r4, r5, r6, r7) := by first | (rw [hji174] at H; exact H) | (simp only [hji174] at H ⊢; exact H)
                      rotate_left 1
                    rotate_left 2
                  rotate_left 3
                  focus
                    replace c145 := Bool.eq_false_iff.mpr c145
                    subst c145
                    have H1 : (some (0, 0, ([] : List (S33)), 0, 0, false, 80)) = some (r1, r2, r3, r4, r5, r6, r7) := by rw [if_neg (show ¬ (false = true) by decide)] at H; exact H
                    clear H
                    have H := H1
                    clear H1
                  rotate_left 1
                  iterate 2
                    focus
                      simp only [Option.some.injEq, Prod.mk.injEq] at H
                      obtain ⟨rfl, rfl, rfl, rfl, rfl, rfl, rfl⟩ := H
                      have hnbyb138_131 := NB138_131.out
                      have hncyb131_138 := NB131_138.out
                      have hnbyb138_132 := NB138_132.out
                      have hncyb132_138 := NB132_138.out
                      have hnbyb138_133 := NB138_133.out
                      have hncyb133_138 := NB133_138.out
                      have hczyb138_0 : wc.cell? ⟨gb138, 0, none⟩ = some (.int .i64 a0_0) := (blk_cell BK138.out 0).trans rfl
                      have hczyb138_1 : wc.cell? ⟨gb138, 1, none⟩ = some (.int .i64 a0_1) := (blk_cell BK138.out 1).trans rfl
                      have hczyb138_2 : wc.cell? ⟨gb138, 2, none⟩ = some (u139002) := (blk_cell BK138.out 2).trans rfl
                      have hczyb138_3 : wc.cell? ⟨gb138, 3, none⟩ = some (.int .i64 a0_3) := (blk_cell BK138.out 3).trans rfl
                      have hfzyb138_0 := blk_frozen BK138.out 0
                      have hfzyb138_1 := blk_frozen BK138.out 1
                      have hfzyb138_2 := blk_frozen BK138.out 2
                      have hfzyb138_3 := blk_frozen BK138.out 3
                      have hnbyb131_132 := NB131_132.out
                      have hncyb132_131 := NB132_131.out
                      have hnbyb131_133 := NB131_133.out
                      have hncyb133_131 := NB133_131.out
                      have hczyb131_0 : wc.cell? ⟨gb131, 0, none⟩ = some (.int .i64 a0_0) := (blk_cell BK131.out 0).trans rfl
                      have hczyb131_1 : wc.cell? ⟨gb131, 1, none⟩ = some (.int .i64 a0_1) := (blk_cell BK131.out 1).trans rfl
                      have hczyb131_2 : wc.cell? ⟨gb131, 2, none⟩ = some (.slice A0_2 l0_2.length c0_2) := (blk_cell BK131.out 2).trans rfl
                      have hczyb131_3 : wc.cell? ⟨gb131, 3, none⟩ = some (.int .i64 a0_3) := (blk_cell BK131.out 3).trans rfl
                      have hfzyb131_0 := blk_frozen BK131.out 0
                      have hfzyb131_1 := blk_frozen BK131.out 1
                      have hfzyb131_2 := blk_frozen BK131.out 2
                      have hfzyb131_3 := blk_frozen BK131.out 3
                      obtain ⟨Aoyi0, coyi0, eoyi0⟩ := Kd.R_slice HO_139002.out
                      subst eoyi0
                      go_wp2_with (first | go_step3 | (simp only [Exit.noGoto_normal, Exit.noGoto_exit, Exit.noGoto_ret]) | ((with_reducible refine gate_callee (f := 43) rfl ?_); refine goesL_ (some 126) rfl rfl Try.func43 (by kernel_rfl) rfl #[.slice Aoyi0 x139002_74.length coyi0, .int .i64 a0_1] rfl (by (try simp only [List.map_toArray, List.map_cons, List.map_nil]); first | done | rfl | (simp only [List.length_drop, List.length_take]; rfl)) ?_; (with_reducible refine (entries_rising.calls kj74 _ _ x139002_74 a0_1 _ _ ?side1 ?side2 A144.out).mono ?_); (case side1 => repeat (first | exact (Kd.R_reads' HO_139002.out).2.2 | (with_reducible refine Kd.C_alloc ?_ _) | (with_reducible refine Kd.C_drewN ?_ _) | (with_reducible refine Kd.C_drew ?_))); (case side2 => exact (Kd.R_reads' HO_139002.out).2.1); rintro e wx126i0 ⟨rfl, hb⟩; refine ⟨_, rfl, ?_⟩; have n0_ := Aside0.mk (Kd.R_below (by (with_reducible repeat (first | apply Kd.R_alloc | apply Kd.R_drewN | apply Kd.R_drew)); exact HO_139002.out) hb); have n1_ := Aside0.mk (blk_below (g := gb131) (o := .cells #[.int .i64 a0_0, .int .i64 a0_1, .slice A0_2 l0_2.length c0_2, .int .i64 a0_3] 26 (0, 0)) (by (with_reducible repeat (first | refine blk_drewN ?_ _ | refine blk_drew ?_ | refine blk_alloc ?_ _)); exact BK131.out) hb); have n2_ := Aside0.mk (blk_below (g := gb132) (o := .cells #[.int .i64 a1_0, .int .i64 a1_1] 23 (0, 0)) (by (with_reducible repeat (first | refine blk_drewN ?_ _ | refine blk_drew ?_ | refine blk_alloc ?_ _)); exact BK132.out) hb); have n3_ := Aside0.mk (blk_below (g := gb133) (o := .cells #[.int .i64 x134000_74, .int .i64 x134001_74, .slice none 0 0, .int .i64 x134003_74] 26 (0, 0)) (by (with_reducible repeat (first | refine blk_drewN ?_ _ | refine blk_drew ?_ | refine blk_alloc ?_ _)); exact BK133.out) hb); have n4_ := Aside0.mk (blk_below (g := gb138) (o := .cells #[.int .i64 a0_0, .int .i64 a0_1, .slice Aoyi0 x139002_74.length coyi0, .int .i64 a0_3] 26 (0, 0)) (by (with_reducible repeat (first | refine blk_drewN ?_ _ | refine blk_drew ?_ | refine blk_alloc ?_ _)); exact BK138.out) hb); have n5_ := Aside0.mk (below_step (by repeat (first | (with_reducible first | exact HB.out | apply below_alloc | apply pw_below_drewN | apply below_drew1 | refine below_set ?_ GE131.out | refine below_set ?_ GE132.out | refine below_set ?_ GE133.out | refine below_set ?_ GE138.out) | exact HB.out)) hb); clear HO_139002; clear BK131; clear BK132; clear BK133; clear BK138; clear HB; have HO_139002 := n0_; have BK131 := n1_; have BK132 := n2_; have BK133 := n3_; have BK138 := n4_; have HB := n5_; clear n0_ n1_ n2_ n3_ n4_ n5_; (try clear hb); (try clear hb2); (try clear hk); (try clear hi); have hczx126b138_0 : wx126i0.cell? ⟨gb138, 0, none⟩ = some (.int .i64 a0_0) := (blk_cell BK138.out 0).trans rfl; have hczx126b138_1 : wx126i0.cell? ⟨gb138, 1, none⟩ = some (.int .i64 a0_1) := (blk_cell BK138.out 1).trans rfl; have hczx126b138_2 : wx126i0.cell? ⟨gb138, 2, none⟩ = some (.slice Aoyi0 x139002_74.length coyi0) := (blk_cell BK138.out 2).trans rfl; have hczx126b138_3 : wx126i0.cell? ⟨gb138, 3, none⟩ = some (.int .i64 a0_3) := (blk_cell BK138.out 3).trans rfl; have hfzx126b138_0 := blk_frozen BK138.out 0; have hfzx126b138_1 := blk_frozen BK138.out 1; have hfzx126b138_2 := blk_frozen BK138.out 2; have hfzx126b138_3 := blk_frozen BK138.out 3; (try have hnbx126b133_132 := NB133_132.out); (try have hncx126b132_133 := NB132_133.out); (try have hczx126b133_0 : wx126i0.cell? ⟨gb133, 0, none⟩ = some (.int .i64 x134000_74) := (blk_cell BK133.out 0).trans rfl); (try have hczx126b133_1 : wx126i0.cell? ⟨gb133, 1, none⟩ = some (.int .i64 x134001_74) := (blk_cell BK133.out 1).trans rfl); (try have hczx126b133_2 : wx126i0.cell? ⟨gb133, 2, none⟩ = some (.slice none 0 0) := (blk_cell BK133.out 2).trans rfl); (try have hczx126b133_3 : wx126i0.cell? ⟨gb133, 3, none⟩ = some (.int .i64 x134003_74) := (blk_cell BK133.out 3).trans rfl); (try have hfzx126b133_0 := blk_frozen BK133.out 0); (try have hfzx126b133_1 := blk_frozen BK133.out 1); (try have hfzx126b133_2 := blk_frozen BK133.out 2); (try have hfzx126b133_3 := blk_frozen BK133.out 3)) | (go_at_call 44; (with_reducible refine (entries_end.calls a0_0 a0_1 _ _ x139002_74 a0_3 t159 _ ?side1 ?side2 A159.out).mono ?_); (case side1 => repeat (first | exact (Kd.R_reads' HO_139002.out).2.2 | (with_reducible refine Kd.C_alloc ?_ _) | (with_reducible refine Kd.C_drewN ?_ _) | (with_reducible refine Kd.C_drew ?_))); (case side2 => exact (Kd.R_reads' HO_139002.out).2.1); rintro e wyi0 ⟨rfl, hb⟩; have n0_ := Aside0.mk (Kd.R_below (by (with_reducible repeat (first | apply Kd.R_alloc | apply Kd.R_drewN | apply Kd.R_drew)); exact HO_139002.out) hb); have n1_ := Aside0.mk (blk_below (g := gb131) (o := .cells #[.int .i64 a0_0, .int .i64 a0_1, .slice A0_2 l0_2.length c0_2, .int .i64 a0_3] 26 (0, 0)) (by (with_reducible repeat (first | refine blk_drewN ?_ _ | refine blk_drew ?_ | refine blk_alloc ?_ _)); exact BK131.out) hb); have n2_ := Aside0.mk (blk_below (g := gb132) (o := .cells #[.int .i64 a1_0, .int .i64 a1_1] 23 (0, 0)) (by (with_reducible repeat (first | refine blk_drewN ?_ _ | refine blk_drew ?_ | refine blk_alloc ?_ _)); exact BK132.out) hb); have n3_ := Aside0.mk (blk_below (g := gb133) (o := .cells #[.int .i64 x134000_74, .int .i64 x134001_74, .slice none 0 0, .int .i64 x134003_74] 26 (0, 0)) (by (with_reducible repeat (first | refine blk_drewN ?_ _ | refine blk_drew ?_ | refine blk_alloc ?_ _)); exact BK133.out) hb); have n4_ := Aside0.mk (blk_below (g := gb138) (o := .cells #[.int .i64 a0_0, .int .i64 a0_1, .slice Aoyi0 x139002_74.length coyi0, .int .i64 a0_3] 26 (0, 0)) (by (with_reducible repeat (first | refine blk_drewN ?_ _ | refine blk_drew ?_ | refine blk_alloc ?_ _)); exact BK138.out) hb); have n5_ := Aside0.mk (below_step (by repeat (first | (with_reducible first | exact HB.out | apply below_alloc | apply pw_below_drewN | apply below_drew1 | refine below_set ?_ GE131.out | refine below_set ?_ GE132.out | refine below_set ?_ GE133.out | refine below_set ?_ GE138.out) | exact HB.out)) hb); clear HO_139002; clear BK131; clear BK132; clear BK133; clear BK138; clear HB; have HO_139002 := n0_; have BK131 := n1_; have BK132 := n2_; have BK133 := n3_; have BK138 := n4_; have HB := n5_; clear n0_ n1_ n2_ n3_ n4_ n5_; (try clear hb); (try clear hb2); (try clear hk); (try clear hi); have hnbyb133_132 := NB133_132.out; have hncyb132_133 := NB132_133.out; have hczyb133_0 : wyi0.cell? ⟨gb133, 0, none⟩ = some (.int .i64 x134000_74) := (blk_cell BK133.out 0).trans rfl; have hczyb133_1 : wyi0.cell? ⟨gb133, 1, none⟩ = some (.int .i64 x134001_74) := (blk_cell BK133.out 1).trans rfl; have hczyb133_2 : wyi0.cell? ⟨gb133, 2, none⟩ = some (.slice none 0 0) := (blk_cell BK133.out 2).trans rfl; have hczyb133_3 : wyi0.cell? ⟨gb133, 3, none⟩ = some (.int .i64 x134003_74) := (blk_cell BK133.out 3).trans rfl; have hfzyb133_0 := blk_frozen BK133.out 0; have hfzyb133_1 := blk_frozen BK133.out 1; have hfzyb133_2 := blk_frozen BK133.out 2; have hfzyb133_3 := blk_frozen BK133.out 3))
                      refine bodyPost_ret (results_list (rs := [.cell 8 26, .tmp 9, .tmp 10, .tmp 11]) rfl (by simp) (.cell gb133 26 #[.int .i64 0, .int .i64 0, .slice none 0 0, .int .i64 0] (0, 0) _ rfl (by (with_reducible repeat (first | refine blk_drewN ?_ _ | refine blk_drew ?_ | refine blk_alloc ?_ _)); refine blk_put (cs := #[.int .i64 0, .int .i64 0, .slice none 0 0, .int .i64 x134003_74]) ?_ 3 _ rfl; (with_reducible repeat (first | refine blk_drewN ?_ _ | refine blk_drew ?_ | refine blk_alloc ?_ _)); refine blk_put (cs := #[.int .i64 0, .int .i64 0, .slice none 0 0, .int .i64 x134003_74]) ?_ 2 _ rfl; (with_reducible repeat (first | refine blk_drewN ?_ _ | refine blk_drew ?_ | refine blk_alloc ?_ _)); refine blk_put (cs := #[.int .i64 0, .int .i64 x134001_74, .slice none 0 0, .int .i64 x134003_74]) ?_ 1 _ rfl; (with_reducible repeat (first | refine blk_drewN ?_ _ | refine blk_drew ?_ | refine blk_alloc ?_ _)); refine blk_put (cs := #[.int .i64 x134000_74, .int .i64 x134001_74, .slice none 0 0, .int .i64 x134003_74]) ?_ 0 _ rfl; (with_reducible repeat (first | refine blk_drewN ?_ _ | refine blk_drew ?_ | refine blk_alloc ?_ _)); exact BK133.out) Try.underlying26 rfl (by kernel_rfl) (.tmp (.tmp (.tmp .nil))))) rfl ?_
                      exact ⟨_, by first | rfl | (simp [errW_none, errW_some] <;> rfl) | (simp [*, errW_none, errW_some] <;> rfl), by first | exact Kd.R_nil _ _ _ _ _ | exact Kd.N_nil _ _ _ _ _ | exact Kd.V_nil _ _ _ _ _ | exact Kd.Q_nil _ _ _ _ _ | exact Kd.S_nil _ _ _ _ _, by repeat (first | (with_reducible first | exact HB.out | apply below_alloc | apply pw_below_drewN | apply below_drew1 | refine below_set ?_ GE131.out | refine below_set ?_ GE132.out | refine below_set ?_ GE133.out | refine below_set ?_ GE138.out) | exact HB.out)⟩
                  focus
                    (try rw [hji174] at A144)
                    (try rw [hji174] at A159)
                    have hji174_ : (if (wrap64 (a1_0 + (l2.length : Int))) < a3 then (wrap64 (a1_0 + (l2.length : Int))) else a3) = ji174 := hji174
                    obtain ⟨ji175, hji175⟩ : ∃ j_ : Int, (mx a0_3 (ji174)) = j_ := ⟨_, rfl⟩
                    replace H : (some (a0_0, a0_1, x139002_74, ji175, mx (wrap64 (a1_0 + (l2.length : Int))) a0_0, true, 0)) = some (r1, r2, r3, r4, r5, r6, r7) := by first | (rw [hji175] at H; exact H) | (simp only [hji175] at H ⊢; exact H)
                    (try rw [hji175] at A144)
                    (try rw [hji175] at A159)
                    have hji175_ : (if a0_3 < (ji174) then (ji174) else a0_3) = ji175 := hji175
                    obtain ⟨ji176, hji176⟩ : ∃ j_ : Int, (mx (wrap64 (a1_0 + (l2.length : Int))) a0_0) = j_ := ⟨_, rfl⟩
                    replace H : (some (a0_0, a0_1, x139002_74, ji175, ji176, true, 0)) = some (r1, r2, r3, r4, r5, r6, r7) := by first | (rw [hji176] at H; exact H) | (simp only [hji176] at H ⊢; exact H)
                    (try rw [hji176] at A144)
                    (try rw [hji176] at A159)
                    have hji176_ : (if (wrap64 (a1_0 + (l2.length : Int))) < a0_0 then a0_0 else (wrap64 (a1_0 + (l2.length : Int)))) = ji176 := hji176
                    simp only [Option.some.injEq, Prod.mk.injEq] at H
                    obtain ⟨rfl, rfl, rfl, rfl, rfl, rfl, rfl⟩ := H
                    have hnbyb138_131 := NB138_131.out
                    have hncyb131_138 := NB131_138.out
                    have hnbyb138_132 := NB138_132.out
                    have hncyb132_138 := NB132_138.out
                    have hnbyb138_133 := NB138_133.out
                    have hncyb133_138 := NB133_138.out
                    have hczyb138_0 : wc.cell? ⟨gb138, 0, none⟩ = some (.int .i64 a0_0) := (blk_cell BK138.out 0).trans rfl
                    have hczyb138_1 : wc.cell? ⟨gb138, 1, none⟩ = some (.int .i64 a0_1) := (blk_cell BK138.out 1).trans rfl
                    have hczyb138_2 : wc.cell? ⟨gb138, 2, none⟩ = some (u139002) := (blk_cell BK138.out 2).trans rfl
                    have hczyb138_3 : wc.cell? ⟨gb138, 3, none⟩ = some (.int .i64 a0_3) := (blk_cell BK138.out 3).trans rfl
                    have hfzyb138_0 := blk_frozen BK138.out 0
                    have hfzyb138_1 := blk_frozen BK138.out 1
                    have hfzyb138_2 := blk_frozen BK138.out 2
                    have hfzyb138_3 := blk_frozen BK138.out 3
                    have hnbyb131_132 := NB131_132.out
                    have hncyb132_131 := NB132_131.out
                    have hnbyb131_133 := NB131_133.out
                    have hncyb133_131 := NB133_131.out
                    have hczyb131_0 : wc.cell? ⟨gb131, 0, none⟩ = some (.int .i64 a0_0) := (blk_cell BK131.out 0).trans rfl
                    have hczyb131_1 : wc.cell? ⟨gb131, 1, none⟩ = some (.int .i64 a0_1) := (blk_cell BK131.out 1).trans rfl
                    have hczyb131_2 : wc.cell? ⟨gb131, 2, none⟩ = some (.slice A0_2 l0_2.length c0_2) := (blk_cell BK131.out 2).trans rfl
                    have hczyb131_3 : wc.cell? ⟨gb131, 3, none⟩ = some (.int .i64 a0_3) := (blk_cell BK131.out 3).trans rfl
                    have hfzyb131_0 := blk_frozen BK131.out 0
                    have hfzyb131_1 := blk_frozen BK131.out 1
                    have hfzyb131_2 := blk_frozen BK131.out 2
                    have hfzyb131_3 := blk_frozen BK131.out 3
                    obtain ⟨Aoyi0, coyi0, eoyi0⟩ := Kd.R_slice HO_139002.out
                    subst eoyi0
                    try go_wp2_with (first | go_step3 | (simp only [Exit.noGoto_normal, Exit.noGoto_exit, Exit.noGoto_ret]) | ((with_reducible refine gate_callee (f := 43) rfl ?_); refine goesL_ (some 126) rfl rfl Try.func43 (by kernel_rfl) rfl #[.slice Aoyi0 x139002_74.length coyi0, .int .i64 a0_1] rfl (by (try simp only [List.map_toArray, List.map_cons, List.map_nil]); first | done | rfl | (simp only [List.length_drop, List.length_take]; rfl)) ?_; (with_reducible refine (entries_rising.calls kj74 _ _ x139002_74 a0_1 _ _ ?side1 ?side2 A144.out).mono ?_); (case side1 => repeat (first | exact (Kd.R_reads' HO_139002.out).2.2 | (with_reducible refine Kd.C_alloc ?_ _) | (with_reducible refine Kd.C_drewN ?_ _) | (with_reducible refine Kd.C_drew ?_))); (case side2 => exact (Kd.R_reads' HO_139002.out).2.1); rintro e wx126i0 ⟨rfl, hb⟩; refine ⟨_, rfl, ?_⟩; have n0_ := Aside0.mk (Kd.R_below (by (with_reducible repeat (first | apply Kd.R_alloc | apply Kd.R_drewN | apply Kd.R_drew)); exact HO_139002.out) hb); have n1_ := Aside0.mk (blk_below (g := gb131) (o := .cells #[.int .i64 a0_0, .int .i64 a0_1, .slice A0_2 l0_2.length c0_2, .int .i64 a0_3] 26 (0, 0)) (by (with_reducible repeat (first | refine blk_drewN ?_ _ | refine blk_drew ?_ | refine blk_alloc ?_ _)); exact BK131.out) hb); have n2_ := Aside0.mk (blk_below (g := gb132) (o := .cells #[.int .i64 a1_0, .int .i64 a1_1] 23 (0, 0)) (by (with_reducible repeat (first | refine blk_drewN ?_ _ | refine blk_drew ?_ | refine blk_alloc ?_ _)); exact BK132.out) hb); have n3_ := Aside0.mk (blk_below (g := gb133) (o := .cells #[.int .i64 x134000_74, .int .i64 x134001_74, .slice none 0 0, .int .i64 x134003_74] 26 (0, 0)) (by (with_reducible repeat (first | refine blk_drewN ?_ _ | refine blk_drew ?_ | refine blk_alloc ?_ _)); exact BK133.out) hb); have n4_ := Aside0.mk (blk_below (g := gb138) (o := .cells #[.int .i64 a0_0, .int .i64 a0_1, .slice Aoyi0 x139002_74.length coyi0, .int .i64 a0_3] 26 (0, 0)) (by (with_reducible repeat (first | refine blk_drewN ?_ _ | refine blk_drew ?_ | refine blk_alloc ?_ _)); exact BK138.out) hb); have n5_ := Aside0.mk (below_step (by repeat (first | (with_reducible first | exact HB.out | apply below_alloc | apply pw_below_drewN | apply below_drew1 | refine below_set ?_ GE131.out | refine below_set ?_ GE132.out | refine below_set ?_ GE133.out | refine below_set ?_ GE138.out) | exact HB.out)) hb); clear HO_139002; clear BK131; clear BK132; clear BK133; clear BK138; clear HB; have HO_139002 := n0_; have BK131 := n1_; have BK132 := n2_; have BK133 := n3_; have BK138 := n4_; have HB := n5_; clear n0_ n1_ n2_ n3_ n4_ n5_; (try clear hb); (try clear hb2); (try clear hk); (try clear hi); have hczx126b138_0 : wx126i0.cell? ⟨gb138, 0, none⟩ = some (.int .i64 a0_0) := (blk_cell BK138.out 0).trans rfl; have hczx126b138_1 : wx126i0.cell? ⟨gb138, 1, none⟩ = some (.int .i64 a0_1) := (blk_cell BK138.out 1).trans rfl; have hczx126b138_2 : wx126i0.cell? ⟨gb138, 2, none⟩ = some (.slice Aoyi0 x139002_74.length coyi0) := (blk_cell BK138.out 2).trans rfl; have hczx126b138_3 : wx126i0.cell? ⟨gb138, 3, none⟩ = some (.int .i64 a0_3) := (blk_cell BK138.out 3).trans rfl; have hfzx126b138_0 := blk_frozen BK138.out 0; have hfzx126b138_1 := blk_frozen BK138.out 1; have hfzx126b138_2 := blk_frozen BK138.out 2; have hfzx126b138_3 := blk_frozen BK138.out 3) | (go_at_call 44; (with_reducible refine (entries_end.calls a0_0 a0_1 _ _ x139002_74 a0_3 t159 _ ?side1 ?side2 A159.out).mono ?_); (case side1 => repeat (first | exact (Kd.R_reads' HO_139002.out).2.2 | (with_reducible refine Kd.C_alloc ?_ _) | (with_reducible refine Kd.C_drewN ?_ _) | (with_reducible refine Kd.C_drew ?_))); (case side2 => exact (Kd.R_reads' HO_139002.out).2.1); rintro e wyi0 ⟨rfl, hb⟩; have n0_ := Aside0.mk (Kd.R_below (by (with_reducible repeat (first | apply Kd.R_alloc | apply Kd.R_drewN | apply Kd.R_drew)); exact HO_139002.out) hb); have n1_ := Aside0.mk (blk_below (g := gb131) (o := .cells #[.int .i64 a0_0, .int .i64 a0_1, .slice A0_2 l0_2.length c0_2, .int .i64 a0_3] 26 (0, 0)) (by (with_reducible repeat (first | refine blk_drewN ?_ _ | refine blk_drew ?_ | refine blk_alloc ?_ _)); exact BK131.out) hb); have n2_ := Aside0.mk (blk_below (g := gb132) (o := .cells #[.int .i64 a1_0, .int .i64 a1_1] 23 (0, 0)) (by (with_reducible repeat (first | refine blk_drewN ?_ _ | refine blk_drew ?_ | refine blk_alloc ?_ _)); exact BK132.out) hb); have n3_ := Aside0.mk (blk_below (g := gb133) (o := .cells #[.int .i64 x134000_74, .int .i64 x134001_74, .slice none 0 0, .int .i64 x134003_74] 26 (0, 0)) (by (with_reducible repeat (first | refine blk_drewN ?_ _ | refine blk_drew ?_ | refine blk_alloc ?_ _)); exact BK133.out) hb); have n4_ := Aside0.mk (blk_below (g := gb138) (o := .cells #[.int .i64 a0_0, .int .i64 a0_1, .slice Aoyi0 x139002_74.length coyi0, .int .i64 a0_3] 26 (0, 0)) (by (with_reducible repeat (first | refine blk_drewN ?_ _ | refine blk_drew ?_ | refine blk_alloc ?_ _)); exact BK138.out) hb); have n5_ := Aside0.mk (below_step (by repeat (first | (with_reducible first | exact HB.out | apply below_alloc | apply pw_below_drewN | apply below_drew1 | refine below_set ?_ GE131.out | refine below_set ?_ GE132.out | refine below_set ?_ GE133.out | refine below_set ?_ GE138.out) | exact HB.out)) hb); clear HO_139002; clear BK131; clear BK132; clear BK133; clear BK138; clear HB; have HO_139002 := n0_; have BK131 := n1_; have BK132 := n2_; have BK133 := n3_; have BK138 := n4_; have HB := n5_; clear n0_ n1_ n2_ n3_ n4_ n5_; (try clear hb); (try clear hb2); (try clear hk); (try clear hi); have hnbyb132_133 := NB132_133.out; have hncyb133_132 := NB133_132.out; have hczyb132_0 : wyi0.cell? ⟨gb132, 0, none⟩ = some (.int .i64 a1_0) := (blk_cell BK132.out 0).trans rfl; have hczyb132_1 : wyi0.cell? ⟨gb132, 1, none⟩ = some (.int .i64 a1_1) := (blk_cell BK132.out 1).trans rfl; have hfzyb132_0 := blk_frozen BK132.out 0; have hfzyb132_1 := blk_frozen BK132.out 1; have hczyb131r2_0 : wyi0.cell? ⟨gb131, 0, none⟩ = some (.int .i64 a0_0) := (blk_cell BK131.out 0).trans rfl; have hczyb131r2_1 : wyi0.cell? ⟨gb131, 1, none⟩ = some (.int .i64 a0_1) := (blk_cell BK131.out 1).trans rfl; have hczyb131r2_2 : wyi0.cell? ⟨gb131, 2, none⟩ = some (.slice A0_2 l0_2.length c0_2) := (blk_cell BK131.out 2).trans rfl; have hczyb131r2_3 : wyi0.cell? ⟨gb131, 3, none⟩ = some (.int .i64 a0_3) := (blk_cell BK131.out 3).trans rfl; have hfzyb131r2_0 := blk_frozen BK131.out 0; have hfzyb131r2_1 := blk_frozen BK131.out 1; have hfzyb131r2_2 := blk_frozen BK131.out 2; have hfzyb131r2_3 := blk_frozen BK131.out 3; have hczyb138r2_0 : wyi0.cell? ⟨gb138, 0, none⟩ = some (.int .i64 a0_0) := (blk_cell BK138.out 0).trans rfl; have hczyb138r2_1 : wyi0.cell? ⟨gb138, 1, none⟩ = some (.int .i64 a0_1) := (blk_cell BK138.out 1).trans rfl; have hczyb138r2_2 : wyi0.cell? ⟨gb138, 2, none⟩ = some (.slice Aoyi0 x139002_74.length coyi0) := (blk_cell BK138.out 2).trans rfl; have hczyb138r2_3 : wyi0.cell? ⟨gb138, 3, none⟩ = some (.int .i64 a0_3) := (blk_cell BK138.out 3).trans rfl; have hfzyb138r2_0 := blk_frozen BK138.out 0; have hfzyb138r2_1 := blk_frozen BK138.out 1; have hfzyb138r2_2 := blk_frozen BK138.out 2; have hfzyb138r2_3 := blk_frozen BK138.out 3))
                    have n0_ : Aside0 (Kd.R k33 33 (wyi0.setCell ⟨gb138, 3, none⟩ (.int .i64 ji175)) w.heap.size (fun _ => True) (.slice Aoyi0 x139002_74.length coyi0) x139002_74) := ⟨by (with_reducible repeat (first | apply Kd.R_alloc | apply Kd.R_drewN | apply Kd.R_drew)); exact Kd.R_mono (Kd.R_far (p := ⟨gb138, 3, none⟩) (Kd.R_types HO_139002.out BK138.out (by decide)) (fun _ hk => hk.2) (.int .i64 ji175)) (fun _ hk => trivial)⟩
                    have n1_ : Aside0 ((wyi0.setCell ⟨gb138, 3, none⟩ (.int .i64 ji175)).heap[gb131]? = some (.cells #[.int .i64 a0_0, .int .i64 a0_1, .slice A0_2 l0_2.length c0_2, .int .i64 a0_3] 26 (0, 0))) := ⟨by (with_reducible repeat (first | refine blk_drewN ?_ _ | refine blk_drew ?_ | refine blk_alloc ?_ _)); refine blk_far ?_ NB131_138.out _; (with_reducible repeat (first | refine blk_drewN ?_ _ | refine blk_drew ?_ | refine blk_alloc ?_ _)); exact BK131.out⟩
                    have n2_ : Aside0 ((wyi0.setCell ⟨gb138, 3, none⟩ (.int .i64 ji175)).heap[gb132]? = some (.cells #[.int .i64 a1_0, .int .i64 a1_1] 23 (0, 0))) := ⟨by (with_reducible repeat (first | refine blk_drewN ?_ _ | refine blk_drew ?_ | refine blk_alloc ?_ _)); refine blk_far ?_ NB132_138.out _; (with_reducible repeat (first | refine blk_drewN ?_ _ | refine blk_drew ?_ | refine blk_alloc ?_ _)); exact BK132.out⟩
                    have n3_ : Aside0 ((wyi0.setCell ⟨gb138, 3, none⟩ (.int .i64 ji175)).heap[gb133]? = some (.cells #[.int .i64 x134000_74, .int .i64 x134001_74, .slice none 0 0, .int .i64 x134003_74] 26 (0, 0))) := ⟨by (with_reducible repeat (first | refine blk_drewN ?_ _ | refine blk_drew ?_ | refine blk_alloc ?_ _)); refine blk_far ?_ NB133_138.out _; (with_reducible repeat (first | refine blk_drewN ?_ _ | refine blk_drew ?_ | refine blk_alloc ?_ _)); exact BK133.out⟩
                    have n4_ : Aside0 ((wyi0.setCell ⟨gb138, 3, none⟩ (.int .i64 ji175)).heap[gb138]? = some (.cells #[.int .i64 a0_0, .int .i64 a0_1, .slice Aoyi0 x139002_74.length coyi0, .int .i64 ji175] 26 (0, 0))) := ⟨by (with_reducible repeat (first | refine blk_drewN ?_ _ | refine blk_drew ?_ | refine blk_alloc ?_ _)); refine blk_put (cs := #[.int .i64 a0_0, .int .i64 a0_1, .slice Aoyi0 x139002_74.length coyi0, .int .i64 a0_3]) ?_ 3 _ rfl; (with_reducible repeat (first | refine blk_drewN ?_ _ | refine blk_drew ?_ | refine blk_alloc ?_ _)); exact BK138.out⟩
                    have n5_ : Aside0 (Below w.heap.size w (wyi0.setCell ⟨gb138, 3, none⟩ (.int .i64 ji175))) := ⟨by repeat (first | (with_reducible first | exact HB.out | apply below_alloc | apply pw_below_drewN | apply below_drew1 | refine below_set ?_ GE131.out | refine below_set ?_ GE132.out | refine below_set ?_ GE133.out | refine below_set ?_ GE138.out) | exact HB.out)⟩
                    (try clear HO_139002)
                    (try clear BK131)
                    (try clear BK132)
                    (try clear BK133)
                    (try clear BK138)
                    (try clear HB)
                    generalize (wyi0.setCell ⟨gb138, 3, none⟩ (.int .i64 ji175)) = wyi1 at n0_ n1_ n2_ n3_ n4_ n5_ ⊢
                    have HO_139002 := n0_
                    have BK131 := n1_
                    have BK132 := n2_
                    have BK133 := n3_
                    have BK138 := n4_
                    have HB := n5_
                    clear n0_ n1_ n2_ n3_ n4_ n5_
                    have n0_ := Aside0.mk (Kd.R_drew HO_139002.out)
                    have n1_ := Aside0.mk (blk_drew BK131.out)
                    have n2_ := Aside0.mk (blk_drew BK132.out)
                    have n3_ := Aside0.mk (blk_drew BK133.out)
                    have n4_ := Aside0.mk (blk_drew BK138.out)
                    have n5_ := Aside0.mk (below_drew1 HB.out)
                    clear HO_139002
                    clear BK131
                    clear BK132
                    clear BK133
                    clear BK138
                    clear HB
                    have HO_139002 := n0_
                    have BK131 := n1_
                    have BK132 := n2_
                    have BK133 := n3_
                    have BK138 := n4_
                    have HB := n5_
                    clear n0_ n1_ n2_ n3_ n4_ n5_
                    refine start_ (n := 10) (S := fun w' => w'.cell? ⟨gb138, 0, none⟩ = some (.int .i64 a0_0) ∧ w'.cell? ⟨gb138, 1, none⟩ = some (.int .i64 a0_1) ∧ w'.cell? ⟨gb138, 2, none⟩ = some (.slice Aoyi0 x139002_74.length coyi0) ∧ w'.cell? ⟨gb138, 3, none⟩ = some (.int .i64 ji175) ∧ w'.cell? ⟨gb131, 0, none⟩ = some (.int .i64 a0_0) ∧ w'.cell? ⟨gb131, 1, none⟩ = some (.int .i64 a0_1) ∧ w'.cell? ⟨gb131, 2, none⟩ = some (.slice A0_2 l0_2.length c0_2) ∧ w'.cell? ⟨gb131, 3, none⟩ = some (.int .i64 a0_3)) (ds := []) #[false, false, false, false, false, false, false, false, false, false] (by kernel_rfl) rfl rfl ⟨(blk_cell BK138.out 0).trans rfl, (blk_cell BK138.out 1).trans rfl, (blk_cell BK138.out 2).trans rfl, (blk_cell BK138.out 3).trans rfl, (blk_cell BK131.out 0).trans rfl, (blk_cell BK131.out 1).trans rfl, (blk_cell BK131.out 2).trans rfl, (blk_cell BK131.out 3).trans rfl⟩ (fun hHeld => ?_); refine with_tabW entries_Accept.tab28 entries_Accept.bits28 (fun HT_ HW_ => ?_)
                    generalize wyi1.drew = wyi2 at HO_139002 BK131 BK132 BK133 BK138 HB hHeld ⊢
                    refine stepP HT_ 1 (some 153) ?_
                    refine stepP HT_ 2 (some 154) ?_
                    refine stepP HT_ 3 (some 155) ?_
                    refine stepT8 HT_ HW_ 0 (some 152) hHeld ?_
                    refine stepT8 HT_ HW_ 4 (some 156) hHeld ?_
                    refine stepP HT_ 5 (some 157) ?_
                    refine one_ (i := 6) (N := none) #[true, true, true, true, true, true, true, false, false, false] rfl rfl (one_of HT_.out (by kernel_rfl)) (by decide) (fun K hK => ?_)
                    have hs194 : wyi2.cell? ⟨gb133, 0, none⟩ = some (.int .i64 x134000_74) := (blk_cell BK133.out 0).trans rfl
                    have hfs194 := blk_frozen BK133.out 0
                    have hns194_0 := NB131_133.out
                    have hns194_1 := NB132_133.out
                    have hns194_3 := NB138_133.out
                    have hms194_0 := NB133_131.out
                    have hms194_1 := NB133_132.out
                    have hms194_3 := NB133_138.out
                    have hs195 : wyi2.cell? ⟨gb133, 1, none⟩ = some (.int .i64 x134001_74) := (blk_cell BK133.out 1).trans rfl
                    have hfs195 := blk_frozen BK133.out 1
                    have hns195_0 := NB131_133.out
                    have hns195_1 := NB132_133.out
                    have hns195_3 := NB138_133.out
                    have hms195_0 := NB133_131.out
                    have hms195_1 := NB133_132.out
                    have hms195_3 := NB133_138.out
                    have hs196 : wyi2.cell? ⟨gb133, 2, none⟩ = some (.slice none 0 0) := (blk_cell BK133.out 2).trans rfl
                    have hfs196 := blk_frozen BK133.out 2
                    have hns196_0 := NB131_133.out
                    have hns196_1 := NB132_133.out
                    have hns196_3 := NB138_133.out
                    have hms196_0 := NB133_131.out
                    have hms196_1 := NB133_132.out
                    have hms196_3 := NB133_138.out
                    have hs197 : wyi2.cell? ⟨gb133, 3, none⟩ = some (.int .i64 x134003_74) := (blk_cell BK133.out 3).trans rfl
                    have hfs197 := blk_frozen BK133.out 3
                    have hns197_0 := NB131_133.out
                    have hns197_1 := NB132_133.out
                    have hns197_3 := NB138_133.out
                    have hms197_0 := NB133_131.out
                    have hms197_1 := NB133_132.out
                    have hms197_3 := NB133_138.out
                    refine skip_ (w1 := ?_) (by rfl) rfl ?_ ?_
                    rotate_left
                    · go_simp
                      rfl
                    refine hK.out _ _ ⟨((cell_far (p := ⟨gb133, _, none⟩) NB138_133.out _).trans (((cell_far (p := ⟨gb133, _, none⟩) NB138_133.out _).trans (((cell_far (p := ⟨gb133, _, none⟩) NB138_133.out _).trans (((cell_far (p := ⟨gb133, _, none⟩) NB138_133.out _).trans (hHeld.1)))))))), ((cell_far (p := ⟨gb133, _, none⟩) NB138_133.out _).trans (((cell_far (p := ⟨gb133, _, none⟩) NB138_133.out _).trans (((cell_far (p := ⟨gb133, _, none⟩) NB138_133.out _).trans (((cell_far (p := ⟨gb133, _, none⟩) NB138_133.out _).trans (hHeld.2.1)))))))), ((cell_far (p := ⟨gb133, _, none⟩) NB138_133.out _).trans (((cell_far (p := ⟨gb133, _, none⟩) NB138_133.out _).trans (((cell_far (p := ⟨gb133, _, none⟩) NB138_133.out _).trans (((cell_far (p := ⟨gb133, _, none⟩) NB138_133.out _).trans (hHeld.2.2.1)))))))), ((cell_far (p := ⟨gb133, _, none⟩) NB138_133.out _).trans (((cell_far (p := ⟨gb133, _, none⟩) NB138_133.out _).trans (((cell_far (p := ⟨gb133, _, none⟩) NB138_133.out _).trans (((cell_far (p := ⟨gb133, _, none⟩) NB138_133.out _).trans (hHeld.2.2.2.1)))))))), ((cell_far (p := ⟨gb133, _, none⟩) NB131_133.out _).trans (((cell_far (p := ⟨gb133, _, none⟩) NB131_133.out _).trans (((cell_far (p := ⟨gb133, _, none⟩) NB131_133.out _).trans (((cell_far (p := ⟨gb133, _, none⟩) NB131_133.out _).trans (hHeld.2.2.2.2.1)))))))), ((cell_far (p := ⟨gb133, _, none⟩) NB131_133.out _).trans (((cell_far (p := ⟨gb133, _, none⟩) NB131_133.out _).trans (((cell_far (p := ⟨gb133, _, none⟩) NB131_133.out _).trans (((cell_far (p := ⟨gb133, _, none⟩) NB131_133.out _).trans (hHeld.2.2.2.2.2.1)))))))), ((cell_far (p := ⟨gb133, _, none⟩) NB131_133.out _).trans (((cell_far (p := ⟨gb133, _, none⟩) NB131_133.out _).trans (((cell_far (p := ⟨gb133, _, none⟩) NB131_133.out _).trans (((cell_far (p := ⟨gb133, _, none⟩) NB131_133.out _).trans (hHeld.2.2.2.2.2.2.1)))))))), ((cell_far (p := ⟨gb133, _, none⟩) NB131_133.out _).trans (((cell_far (p := ⟨gb133, _, none⟩) NB131_133.out _).trans (((cell_far (p := ⟨gb133, _, none⟩) NB131_133.out _).trans (((cell_far (p := ⟨gb133, _, none⟩) NB131_133.out _).trans (hHeld.2.2.2.2.2.2.2))))))))⟩ (fun hHeld => ?_)
                    clear hK K
                    refine stepP HT_ 7 (some 9) ?_
                    refine stepP HT_ 8 (some 10) ?_
                    refine stepP HT_ 9 (some 11) ?_
                    refine done_ (done_of HT_.out (by kernel_rfl)) ?_
                    try go_wp2_with (first | go_step3 | (simp only [Exit.noGoto_normal, Exit.noGoto_exit, Exit.noGoto_ret]))
                    refine bodyPost_ret (results_list (rs := [.cell 8 26, .tmp 9, .tmp 10, .tmp 11]) rfl (by simp) (.cell gb133 26 #[.int .i64 a0_0, .int .i64 a0_1, .slice Aoyi0 x139002_74.length coyi0, .int .i64 ji175] (0, 0) _ rfl (by (with_reducible repeat (first | refine blk_drewN ?_ _ | refine blk_drew ?_ | refine blk_alloc ?_ _)); refine blk_put (cs := #[.int .i64 a0_0, .int .i64 a0_1, .slice Aoyi0 x139002_74.length coyi0, .int .i64 x134003_74]) ?_ 3 _ rfl; (with_reducible repeat (first | refine blk_drewN ?_ _ | refine blk_drew ?_ | refine blk_alloc ?_ _)); refine blk_put (cs := #[.int .i64 a0_0, .int .i64 a0_1, .slice none 0 0, .int .i64 x134003_74]) ?_ 2 _ rfl; (with_reducible repeat (first | refine blk_drewN ?_ _ | refine blk_drew ?_ | refine blk_alloc ?_ _)); refine blk_put (cs := #[.int .i64 a0_0, .int .i64 x134001_74, .slice none 0 0, .int .i64 x134003_74]) ?_ 1 _ rfl; (with_reducible repeat (first | refine blk_drewN ?_ _ | refine blk_drew ?_ | refine blk_alloc ?_ _)); refine blk_put (cs := #[.int .i64 x134000_74, .int .i64 x134001_74, .slice none 0 0, .int .i64 x134003_74]) ?_ 0 _ rfl; (with_reducible repeat (first | refine blk_drewN ?_ _ | refine blk_drew ?_ | refine blk_alloc ?_ _)); exact BK133.out) Try.underlying26 rfl (by kernel_rfl) (.tmp (.tmp (.tmp .nil))))) rfl ?_
                    exact ⟨_, by first | rfl | (simp [errW_none, errW_some] <;> rfl) | (simp only [← hji174, ← hji175, ← hji176]; first | rfl | (simp [errW_none, errW_some] <;> rfl)) | (simp [*, errW_none, errW_some] <;> rfl), by (with_reducible repeat (first | apply Kd.R_alloc | apply Kd.R_drewN | apply Kd.R_drew)); exact Kd.R_mono (Kd.R_far (p := ⟨gb133, 3, none⟩) (Kd.R_far (p := ⟨gb133, 2, none⟩) (Kd.R_far (p := ⟨gb133, 1, none⟩) (Kd.R_far (p := ⟨gb133, 0, none⟩) (Kd.R_types HO_139002.out BK133.out (by decide)) (fun _ hk => hk.2) (.int .i64 a0_0)) (fun _ hk => hk.2) (.int .i64 a0_1)) (fun _ hk => hk.2) (.slice Aoyi0 x139002_74.length coyi0)) (fun _ hk => hk.2) (.int .i64 ji175)) (fun _ hk => trivial), by repeat (first | (with_reducible first | exact HB.out | apply below_alloc | apply pw_below_drewN | apply below_drew1 | refine below_set ?_ GE131.out | refine below_set ?_ GE132.out | refine below_set ?_ GE133.out | refine below_set ?_ GE138.out) | exact HB.out)⟩
                  focus
                    simp only [Option.some.injEq, Prod.mk.injEq] at H
                    obtain ⟨rfl, rfl, rfl, rfl, rfl, rfl, rfl⟩ := H
                    have hnbyb138_131 := NB138_131.out
                    have hncyb131_138 := NB131_138.out
                    have hnbyb138_132 := NB138_132.out
                    have hncyb132_138 := NB132_138.out
                    have hnbyb138_133 := NB138_133.out
                    have hncyb133_138 := NB133_138.out
                    have hczyb138_0 : wc.cell? ⟨gb138, 0, none⟩ = some (.int .i64 a0_0) := (blk_cell BK138.out 0).trans rfl
                    have hczyb138_1 : wc.cell? ⟨gb138, 1, none⟩ = some (.int .i64 a0_1) := (blk_cell BK138.out 1).trans rfl
                    have hczyb138_2 : wc.cell? ⟨gb138, 2, none⟩ = some (u139002) := (blk_cell BK138.out 2).trans rfl
                    have hczyb138_3 : wc.cell? ⟨gb138, 3, none⟩ = some (.int .i64 a0_3) := (blk_cell BK138.out 3).trans rfl
                    have hfzyb138_0 := blk_frozen BK138.out 0
                    have hfzyb138_1 := blk_frozen BK138.out 1
                    have hfzyb138_2 := blk_frozen BK138.out 2
                    have hfzyb138_3 := blk_frozen BK138.out 3
                    have hnbyb131_132 := NB131_132.out
                    have hncyb132_131 := NB132_131.out
                    have hnbyb131_133 := NB131_133.out
                    have hncyb133_131 := NB133_131.out
                    have hczyb131_0 : wc.cell? ⟨gb131, 0, none⟩ = some (.int .i64 a0_0) := (blk_cell BK131.out 0).trans rfl
                    have hczyb131_1 : wc.cell? ⟨gb131, 1, none⟩ = some (.int .i64 a0_1) := (blk_cell BK131.out 1).trans rfl
                    have hczyb131_2 : wc.cell? ⟨gb131, 2, none⟩ = some (.slice A0_2 l0_2.length c0_2) := (blk_cell BK131.out 2).trans rfl
                    have hczyb131_3 : wc.cell? ⟨gb131, 3, none⟩ = some (.int .i64 a0_3) := (blk_cell BK131.out 3).trans rfl
                    have hfzyb131_0 := blk_frozen BK131.out 0
                    have hfzyb131_1 := blk_frozen BK131.out 1
                    have hfzyb131_2 := blk_frozen BK131.out 2
                    have hfzyb131_3 := blk_frozen BK131.out 3
                    obtain ⟨Aoyi0, coyi0, eoyi0⟩ := Kd.R_slice HO_139002.out
                    subst eoyi0
                    go_wp2_with (first | go_step3 | (simp only [Exit.noGoto_normal, Exit.noGoto_exit, Exit.noGoto_ret]) | ((with_reducible refine gate_callee (f := 43) rfl ?_); refine goesL_ (some 126) rfl rfl Try.func43 (by kernel_rfl) rfl #[.slice Aoyi0 x139002_74.length coyi0, .int .i64 a0_1] rfl (by (try simp only [List.map_toArray, List.map_cons, List.map_nil]); first | done | rfl | (simp only [List.length_drop, List.length_take]; rfl)) ?_; (with_reducible refine (entries_rising.calls kj74 _ _ x139002_74 a0_1 _ _ ?side1 ?side2 A144.out).mono ?_); (case side1 => repeat (first | exact (Kd.R_reads' HO_139002.out).2.2 | (with_reducible refine Kd.C_alloc ?_ _) | (with_reducible refine Kd.C_drewN ?_ _) | (with_reducible refine Kd.C_drew ?_))); (case side2 => exact (Kd.R_reads' HO_139002.out).2.1); rintro e wx126i0 ⟨rfl, hb⟩; refine ⟨_, rfl, ?_⟩; have n0_ := Aside0.mk (Kd.R_below (by (with_reducible repeat (first | apply Kd.R_alloc | apply Kd.R_drewN | apply Kd.R_drew)); exact HO_139002.out) hb); have n1_ := Aside0.mk (blk_below (g := gb131) (o := .cells #[.int .i64 a0_0, .int .i64 a0_1, .slice A0_2 l0_2.length c0_2, .int .i64 a0_3] 26 (0, 0)) (by (with_reducible repeat (first | refine blk_drewN ?_ _ | refine blk_drew ?_ | refine blk_alloc ?_ _)); exact BK131.out) hb); have n2_ := Aside0.mk (blk_below (g := gb132) (o := .cells #[.int .i64 a1_0, .int .i64 a1_1] 23 (0, 0)) (by (with_reducible repeat (first | refine blk_drewN ?_ _ | refine blk_drew ?_ | refine blk_alloc ?_ _)); exact BK132.out) hb); have n3_ := Aside0.mk (blk_below (g := gb133) (o := .cells #[.int .i64 x134000_74, .int .i64 x134001_74, .slice none 0 0, .int .i64 x134003_74] 26 (0, 0)) (by (with_reducible repeat (first | refine blk_drewN ?_ _ | refine blk_drew ?_ | refine blk_alloc ?_ _)); exact BK133.out) hb); have n4_ := Aside0.mk (blk_below (g := gb138) (o := .cells #[.int .i64 a0_0, .int .i64 a0_1, .slice Aoyi0 x139002_74.length coyi0, .int .i64 a0_3] 26 (0, 0)) (by (with_reducible repeat (first | refine blk_drewN ?_ _ | refine blk_drew ?_ | refine blk_alloc ?_ _)); exact BK138.out) hb); have n5_ := Aside0.mk (below_step (by repeat (first | (with_reducible first | exact HB.out | apply below_alloc | apply pw_below_drewN | apply below_drew1 | refine below_set ?_ GE131.out | refine below_set ?_ GE132.out | refine below_set ?_ GE133.out | refine below_set ?_ GE138.out) | exact HB.out)) hb); clear HO_139002; clear BK131; clear BK132; clear BK133; clear BK138; clear HB; have HO_139002 := n0_; have BK131 := n1_; have BK132 := n2_; have BK133 := n3_; have BK138 := n4_; have HB := n5_; clear n0_ n1_ n2_ n3_ n4_ n5_; (try clear hb); (try clear hb2); (try clear hk); (try clear hi); have hnbx126b133_132 := NB133_132.out; have hncx126b132_133 := NB132_133.out; have hczx126b133_0 : wx126i0.cell? ⟨gb133, 0, none⟩ = some (.int .i64 x134000_74) := (blk_cell BK133.out 0).trans rfl; have hczx126b133_1 : wx126i0.cell? ⟨gb133, 1, none⟩ = some (.int .i64 x134001_74) := (blk_cell BK133.out 1).trans rfl; have hczx126b133_2 : wx126i0.cell? ⟨gb133, 2, none⟩ = some (.slice none 0 0) := (blk_cell BK133.out 2).trans rfl; have hczx126b133_3 : wx126i0.cell? ⟨gb133, 3, none⟩ = some (.int .i64 x134003_74) := (blk_cell BK133.out 3).trans rfl; have hfzx126b133_0 := blk_frozen BK133.out 0; have hfzx126b133_1 := blk_frozen BK133.out 1; have hfzx126b133_2 := blk_frozen BK133.out 2; have hfzx126b133_3 := blk_frozen BK133.out 3))
                    refine bodyPost_ret (results_list (rs := [.cell 8 26, .tmp 9, .tmp 10, .tmp 11]) rfl (by simp) (.cell gb133 26 #[.int .i64 0, .int .i64 0, .slice none 0 0, .int .i64 0] (0, 0) _ rfl (by (with_reducible repeat (first | refine blk_drewN ?_ _ | refine blk_drew ?_ | refine blk_alloc ?_ _)); refine blk_put (cs := #[.int .i64 0, .int .i64 0, .slice none 0 0, .int .i64 x134003_74]) ?_ 3 _ rfl; (with_reducible repeat (first | refine blk_drewN ?_ _ | refine blk_drew ?_ | refine blk_alloc ?_ _)); refine blk_put (cs := #[.int .i64 0, .int .i64 0, .slice none 0 0, .int .i64 x134003_74]) ?_ 2 _ rfl; (with_reducible repeat (first | refine blk_drewN ?_ _ | refine blk_drew ?_ | refine blk_alloc ?_ _)); refine blk_put (cs := #[.int .i64 0, .int .i64 x134001_74, .slice none 0 0, .int .i64 x134003_74]) ?_ 1 _ rfl; (with_reducible repeat (first | refine blk_drewN ?_ _ | refine blk_drew ?_ | refine blk_alloc ?_ _)); refine blk_put (cs := #[.int .i64 x134000_74, .int .i64 x134001_74, .slice none 0 0, .int .i64 x134003_74]) ?_ 0 _ rfl; (with_reducible repeat (first | refine blk_drewN ?_ _ | refine blk_drew ?_ | refine blk_alloc ?_ _)); exact BK133.out) Try.underlying26 rfl (by kernel_rfl) (.tmp (.tmp (.tmp .nil))))) rfl ?_
                    exact ⟨_, by first | rfl | (simp [errW_none, errW_some] <;> rfl) | (simp [*, errW_none, errW_some] <;> rfl), by first | exact Kd.R_nil _ _ _ _ _ | exact Kd.N_nil _ _ _ _ _ | exact Kd.V_nil _ _ _ _ _ | exact Kd.Q_nil _ _ _ _ _ | exact Kd.S_nil _ _ _ _ _, by repeat (first | (with_reducible first | exact HB.out | apply below_alloc | apply pw_below_drewN | apply below_drew1 | refine below_set ?_ GE131.out | refine below_set ?_ GE132.out | refine below_set ?_ GE133.out | refine below_set ?_ GE138.out) | exact HB.out)⟩
        · replace c12 := Bool.eq_false_iff.mpr c12
          subst c12
          have H1 : (some (0, 0, ([] : List (S33)), 0, 0, false, 1)) = some (r1, r2, r3, r4, r5, r6, r7) := by rw [if_neg (show ¬ (false = true) by decide)] at H; exact H
          clear H
          have H := H1
          clear H1
          simp only [Option.some.injEq, Prod.mk.injEq] at H
          obtain ⟨rfl, rfl, rfl, rfl, rfl, rfl, rfl⟩ := H
          go_enter Try.func20, Try.ntmps20
          go_wp2_with (first | go_step3 | (simp only [Exit.noGoto_normal, Exit.noGoto_exit, Exit.noGoto_ret]) | ((with_reducible refine gate_dst (N := 4) rfl ?_); refine box_event ?hg (N := 4) ?hd (cs := #[.int .i64 a0_0, .int .i64 a0_1, .slice A0_2 l0_2.length c0_2, .int .i64 a0_3]) (t := 26) ?hr ?_; (case hd => rfl); (case hg => rfl); (case hr => first | (go_simp; done) | (go_simp; rfl)); intro gb131 hg w209 hbox hb; have n0_ := Aside0.mk (below_step (by repeat (first | (with_reducible first | exact HB.out | apply below_alloc | apply pw_below_drewN | apply below_drew1) | exact HB.out)) hb); have n1_ := Aside0.mk (hbox); have n2_ := Aside0.mk ((by rw [hg]; exact (below_size (by repeat (first | (with_reducible first | exact HB.out | apply below_alloc | apply pw_below_drewN | apply below_drew1) | exact HB.out))) : w.heap.size ≤ gb131)); have n3_ := Aside0.mk ((by rw [hg]; exact (below_size (by repeat (first | (with_reducible first | exact HB.out | apply below_alloc | apply pw_below_drewN | apply below_drew1) | exact HB.out))) : w.heap.size ≤ gb131)); clear HB; have HB := n0_; have BK131 := n1_; have GW131 := n2_; have GE131 := n3_; clear n0_ n1_ n2_ n3_; clear hb hbox hg) | ((with_reducible refine gate_dst (N := 5) rfl ?_); refine box_event ?hg (N := 5) ?hd (cs := #[.int .i64 a1_0, .int .i64 a1_1]) (t := 23) ?hr ?_; (case hd => rfl); (case hg => rfl); (case hr => first | (go_simp; done) | (go_simp; rfl)); intro gb132 hg w210 hbox hb; have n0_ := Aside0.mk (blk_below (g := gb131) (o := .cells #[.int .i64 a0_0, .int .i64 a0_1, .slice A0_2 l0_2.length c0_2, .int .i64 a0_3] 26 (0, 0)) (by (with_reducible repeat (first | refine blk_drewN ?_ _ | refine blk_drew ?_ | refine blk_alloc ?_ _)); exact BK131.out) hb); have n1_ := Aside0.mk (below_step (by repeat (first | (with_reducible first | exact HB.out | apply below_alloc | apply pw_below_drewN | apply below_drew1 | refine below_set ?_ GE131.out) | exact HB.out)) hb); have n2_ := Aside0.mk (hbox); have n3_ := Aside0.mk ((by rw [hg]; exact (below_size (by repeat (first | (with_reducible first | exact HB.out | apply below_alloc | apply pw_below_drewN | apply below_drew1 | refine below_set ?_ GE131.out) | exact HB.out))) : w.heap.size ≤ gb132)); have n4_ := Aside0.mk ((by rw [hg]; exact (below_size (by repeat (first | (with_reducible first | exact HB.out | apply below_alloc | apply pw_below_drewN | apply below_drew1 | refine below_set ?_ GE131.out) | exact HB.out))) : w.heap.size ≤ gb132)); have n5_ := Aside0.mk ((by rw [hg]; exact Nat.ne_of_lt (blk_lt (g := gb131) (o := .cells #[.int .i64 a0_0, .int .i64 a0_1, .slice A0_2 l0_2.length c0_2, .int .i64 a0_3] 26 (0, 0)) (by (with_reducible repeat (first | refine blk_drewN ?_ _ | refine blk_drew ?_ | refine blk_alloc ?_ _)); exact BK131.out)) : gb131 ≠ gb132)); have n6_ := Aside0.mk ((by rw [hg]; exact Nat.ne_of_gt (blk_lt (g := gb131) (o := .cells #[.int .i64 a0_0, .int .i64 a0_1, .slice A0_2 l0_2.length c0_2, .int .i64 a0_3] 26 (0, 0)) (by (with_reducible repeat (first | refine blk_drewN ?_ _ | refine blk_drew ?_ | refine blk_alloc ?_ _)); exact BK131.out)) : gb132 ≠ gb131)); clear BK131; clear HB; have BK131 := n0_; have HB := n1_; have BK132 := n2_; have GW132 := n3_; have GE132 := n4_; have NB131_132 := n5_; have NB132_131 := n6_; clear n0_ n1_ n2_ n3_ n4_ n5_ n6_; clear hb hbox hg) | ((with_reducible refine gate_dst (N := 8) rfl ?_); refine box_event ?hg (N := 8) ?hd (cs := #[.int .i64 0, .int .i64 0, .slice none 0 0, .int .i64 0]) (t := 26) ?hr ?_; (case hd => rfl); (case hg => rfl); (case hr => first | (go_simp; done) | (go_simp; rfl)); intro gb133 hg w211 hbox hb; have n0_ := Aside0.mk (blk_below (g := gb131) (o := .cells #[.int .i64 a0_0, .int .i64 a0_1, .slice A0_2 l0_2.length c0_2, .int .i64 a0_3] 26 (0, 0)) (by (with_reducible repeat (first | refine blk_drewN ?_ _ | refine blk_drew ?_ | refine blk_alloc ?_ _)); exact BK131.out) hb); have n1_ := Aside0.mk (blk_below (g := gb132) (o := .cells #[.int .i64 a1_0, .int .i64 a1_1] 23 (0, 0)) (by (with_reducible repeat (first | refine blk_drewN ?_ _ | refine blk_drew ?_ | refine blk_alloc ?_ _)); exact BK132.out) hb); have n2_ := Aside0.mk (below_step (by repeat (first | (with_reducible first | exact HB.out | apply below_alloc | apply pw_below_drewN | apply below_drew1 | refine below_set ?_ GE131.out | refine below_set ?_ GE132.out) | exact HB.out)) hb); have n3_ := Aside0.mk (hbox); have n4_ := Aside0.mk ((by rw [hg]; exact (below_size (by repeat (first | (with_reducible first | exact HB.out | apply below_alloc | apply pw_below_drewN | apply below_drew1 | refine below_set ?_ GE131.out | refine below_set ?_ GE132.out) | exact HB.out))) : w.heap.size ≤ gb133)); have n5_ := Aside0.mk ((by rw [hg]; exact (below_size (by repeat (first | (with_reducible first | exact HB.out | apply below_alloc | apply pw_below_drewN | apply below_drew1 | refine below_set ?_ GE131.out | refine below_set ?_ GE132.out) | exact HB.out))) : w.heap.size ≤ gb133)); have n6_ := Aside0.mk ((by rw [hg]; exact Nat.ne_of_lt (blk_lt (g := gb131) (o := .cells #[.int .i64 a0_0, .int .i64 a0_1, .slice A0_2 l0_2.length c0_2, .int .i64 a0_3] 26 (0, 0)) (by (with_reducible repeat (first | refine blk_drewN ?_ _ | refine blk_drew ?_ | refine blk_alloc ?_ _)); exact BK131.out)) : gb131 ≠ gb133)); have n7_ := Aside0.mk ((by rw [hg]; exact Nat.ne_of_gt (blk_lt (g := gb131) (o := .cells #[.int .i64 a0_0, .int .i64 a0_1, .slice A0_2 l0_2.length c0_2, .int .i64 a0_3] 26 (0, 0)) (by (with_reducible repeat (first | refine blk_drewN ?_ _ | refine blk_drew ?_ | refine blk_alloc ?_ _)); exact BK131.out)) : gb133 ≠ gb131)); have n8_ := Aside0.mk ((by rw [hg]; exact Nat.ne_of_lt (blk_lt (g := gb132) (o := .cells #[.int .i64 a1_0, .int .i64 a1_1] 23 (0, 0)) (by (with_reducible repeat (first | refine blk_drewN ?_ _ | refine blk_drew ?_ | refine blk_alloc ?_ _)); exact BK132.out)) : gb132 ≠ gb133)); have n9_ := Aside0.mk ((by rw [hg]; exact Nat.ne_of_gt (blk_lt (g := gb132) (o := .cells #[.int .i64 a1_0, .int .i64 a1_1] 23 (0, 0)) (by (with_reducible repeat (first | refine blk_drewN ?_ _ | refine blk_drew ?_ | refine blk_alloc ?_ _)); exact BK132.out)) : gb133 ≠ gb132)); clear BK131; clear BK132; clear HB; have BK131 := n0_; have BK132 := n1_; have HB := n2_; have BK133 := n3_; have GW133 := n4_; have GE133 := n5_; have NB131_133 := n6_; have NB133_131 := n7_; have NB132_133 := n8_; have NB133_132 := n9_; clear n0_ n1_ n2_ n3_ n4_ n5_ n6_ n7_ n8_ n9_; clear hb hbox hg; have hnb212 := NB131_132.out; have hnc212 := NB132_131.out; have hnb213 := NB131_133.out; have hnc213 := NB133_131.out; have hcz214_0 : w211.cell? ⟨gb131, 0, none⟩ = some (.int .i64 a0_0) := (blk_cell BK131.out 0).trans rfl; have hcz214_1 : w211.cell? ⟨gb131, 1, none⟩ = some (.int .i64 a0_1) := (blk_cell BK131.out 1).trans rfl; have hcz214_2 : w211.cell? ⟨gb131, 2, none⟩ = some (.slice A0_2 l0_2.length c0_2) := (blk_cell BK131.out 2).trans rfl; have hcz214_3 : w211.cell? ⟨gb131, 3, none⟩ = some (.int .i64 a0_3) := (blk_cell BK131.out 3).trans rfl; have hfz214_0 := blk_frozen BK131.out 0; have hfz214_1 := blk_frozen BK131.out 1; have hfz214_2 := blk_frozen BK131.out 2; have hfz214_3 := blk_frozen BK131.out 3) | ((with_reducible refine gate_callee (f := 30) rfl ?_); refine goesL_ (some 23) rfl rfl Try.func30 (by kernel_rfl) rfl #[.agg #[.int .i64 a0_0, .int .i64 a0_1, .slice A0_2 l0_2.length c0_2, .int .i64 a0_3]] rfl (by (try simp only [List.map_toArray, List.map_cons, List.map_nil]); first | done | rfl | (simp only [List.length_drop, List.length_take]; rfl)) ?_; (with_reducible refine (entries_Check.calls k a0_0 a0_1 _ _ l0_2 a0_3 t134 _ ?side1 ?side2 A5.out).mono ?_); (case side1 => repeat (first | exact (Kd.C_below HR0_2.out HB.out) | (with_reducible refine Kd.C_alloc ?_ _) | (with_reducible refine Kd.C_drewN ?_ _) | (with_reducible refine Kd.C_drew ?_))); (case side2 => exact HC0_2.out); rintro e w215 ⟨rfl, hb⟩; refine ⟨_, rfl, ?_⟩; have n0_ := Aside0.mk (blk_below (g := gb131) (o := .cells #[.int .i64 a0_0, .int .i64 a0_1, .slice A0_2 l0_2.length c0_2, .int .i64 a0_3] 26 (0, 0)) (by (with_reducible repeat (first | refine blk_drewN ?_ _ | refine blk_drew ?_ | refine blk_alloc ?_ _)); exact BK131.out) hb); have n1_ := Aside0.mk (blk_below (g := gb132) (o := .cells #[.int .i64 a1_0, .int .i64 a1_1] 23 (0, 0)) (by (with_reducible repeat (first | refine blk_drewN ?_ _ | refine blk_drew ?_ | refine blk_alloc ?_ _)); exact BK132.out) hb); have n2_ := Aside0.mk (blk_below (g := gb133) (o := .cells #[.int .i64 0, .int .i64 0, .slice none 0 0, .int .i64 0] 26 (0, 0)) (by (with_reducible repeat (first | refine blk_drewN ?_ _ | refine blk_drew ?_ | refine blk_alloc ?_ _)); exact BK133.out) hb); have n3_ := Aside0.mk (below_step (by repeat (first | (with_reducible first | exact HB.out | apply below_alloc | apply pw_below_drewN | apply below_drew1 | refine below_set ?_ GE131.out | refine below_set ?_ GE132.out | refine below_set ?_ GE133.out) | exact HB.out)) hb); clear BK131; clear BK132; clear BK133; clear HB; have BK131 := n0_; have BK132 := n1_; have BK133 := n2_; have HB := n3_; clear n0_ n1_ n2_ n3_; (try clear hb); (try clear hb2); (try clear hk); (try clear hi); have hnb216 := NB132_133.out; have hnc216 := NB133_132.out; have hcz217_0 : w215.cell? ⟨gb132, 0, none⟩ = some (.int .i64 a1_0) := (blk_cell BK132.out 0).trans rfl; have hcz217_1 : w215.cell? ⟨gb132, 1, none⟩ = some (.int .i64 a1_1) := (blk_cell BK132.out 1).trans rfl; have hfz217_0 := blk_frozen BK132.out 0; have hfz217_1 := blk_frozen BK132.out 1) | ((with_reducible refine gate_callee (f := 41) rfl ?_); refine goesL_ (some 28) rfl rfl Try.func41 (by kernel_rfl) rfl #[.agg #[.int .i64 a1_0, .int .i64 a1_1]] rfl (by (try simp only [List.map_toArray, List.map_cons, List.map_nil]); first | done | rfl | (simp only [List.length_drop, List.length_take]; rfl)) ?_; (with_reducible refine (entries_isMark.calls a1_0 a1_1 true _ A7.out).mono ?_); rintro e w218 ⟨rfl, hb⟩; refine ⟨_, rfl, ?_⟩; have n0_ := Aside0.mk (blk_below (g := gb131) (o := .cells #[.int .i64 a0_0, .int .i64 a0_1, .slice A0_2 l0_2.length c0_2, .int .i64 a0_3] 26 (0, 0)) (by (with_reducible repeat (first | refine blk_drewN ?_ _ | refine blk_drew ?_ | refine blk_alloc ?_ _)); exact BK131.out) hb); have n1_ := Aside0.mk (blk_below (g := gb132) (o := .cells #[.int .i64 a1_0, .int .i64 a1_1] 23 (0, 0)) (by (with_reducible repeat (first | refine blk_drewN ?_ _ | refine blk_drew ?_ | refine blk_alloc ?_ _)); exact BK132.out) hb); have n2_ := Aside0.mk (blk_below (g := gb133) (o := .cells #[.int .i64 0, .int .i64 0, .slice none 0 0, .int .i64 0] 26 (0, 0)) (by (with_reducible repeat (first | refine blk_drewN ?_ _ | refine blk_drew ?_ | refine blk_alloc ?_ _)); exact BK133.out) hb); have n3_ := Aside0.mk (below_step (by repeat (first | (with_reducible first | exact HB.out | apply below_alloc | apply pw_below_drewN | apply below_drew1 | refine below_set ?_ GE131.out | refine below_set ?_ GE132.out | refine below_set ?_ GE133.out) | exact HB.out)) hb); clear BK131; clear BK132; clear BK133; clear HB; have BK131 := n0_; have BK132 := n1_; have BK133 := n2_; have HB := n3_; clear n0_ n1_ n2_ n3_; (try clear hb); (try clear hb2); (try clear hk); (try clear hi)) | (go_at_call 42; (with_reducible refine (entries_within.calls a3 0 1000000 true _ A9.out).mono ?_); rintro e w' ⟨rfl, ⟨nd, rfl⟩⟩; (try (rw [drewN_self w218]; generalize hq_ : World.drewN w218 _ = w218; have n0_ : Aside0 (w218.heap[gb131]? = some (.cells #[.int .i64 a0_0, .int .i64 a0_1, .slice A0_2 l0_2.length c0_2, .int .i64 a0_3] 26 (0, 0))) := ⟨by rw [← hq_]; exact (by (with_reducible repeat (first | refine blk_drewN ?_ _ | refine blk_drew ?_ | refine blk_alloc ?_ _)); exact BK131.out)⟩; have n1_ : Aside0 (w218.heap[gb132]? = some (.cells #[.int .i64 a1_0, .int .i64 a1_1] 23 (0, 0))) := ⟨by rw [← hq_]; exact (by (with_reducible repeat (first | refine blk_drewN ?_ _ | refine blk_drew ?_ | refine blk_alloc ?_ _)); exact BK132.out)⟩; have n2_ : Aside0 (w218.heap[gb133]? = some (.cells #[.int .i64 0, .int .i64 0, .slice none 0 0, .int .i64 0] 26 (0, 0))) := ⟨by rw [← hq_]; exact (by (with_reducible repeat (first | refine blk_drewN ?_ _ | refine blk_drew ?_ | refine blk_alloc ?_ _)); exact BK133.out)⟩; have n3_ : Aside0 (Below w.heap.size w w218) := ⟨by rw [← hq_]; exact (by repeat (first | (with_reducible first | exact HB.out | apply below_alloc | apply pw_below_drewN | apply below_drew1 | refine below_set ?_ GE131.out | refine below_set ?_ GE132.out | refine below_set ?_ GE133.out) | exact HB.out))⟩; clear BK131 BK132 BK133 HB hq_; have BK131 := n0_; have BK132 := n1_; have BK133 := n2_; have HB := n3_; clear n0_ n1_ n2_ n3_)); have hcz219_0 : w218.cell? ⟨gb132, 0, none⟩ = some (.int .i64 a1_0) := (blk_cell BK132.out 0).trans rfl; have hcz219_1 : w218.cell? ⟨gb132, 1, none⟩ = some (.int .i64 a1_1) := (blk_cell BK132.out 1).trans rfl; have hfz219_0 := blk_frozen BK132.out 0; have hfz219_1 := blk_frozen BK132.out 1) | (go_at_call 43; (with_reducible refine (entries_rising.calls k _ _ l2 a1_1 false _ ?side1 ?side2 A11.out).mono ?_); (case side1 => repeat (first | exact (Kd.C_below HR2.out HB.out) | (with_reducible refine Kd.C_alloc ?_ _) | (with_reducible refine Kd.C_drewN ?_ _) | (with_reducible refine Kd.C_drew ?_))); (case side2 => exact HC2.out); rintro e w220 ⟨rfl, hb⟩; have n0_ := Aside0.mk (blk_below (g := gb131) (o := .cells #[.int .i64 a0_0, .int .i64 a0_1, .slice A0_2 l0_2.length c0_2, .int .i64 a0_3] 26 (0, 0)) (by (with_reducible repeat (first | refine blk_drewN ?_ _ | refine blk_drew ?_ | refine blk_alloc ?_ _)); exact BK131.out) hb); have n1_ := Aside0.mk (blk_below (g := gb132) (o := .cells #[.int .i64 a1_0, .int .i64 a1_1] 23 (0, 0)) (by (with_reducible repeat (first | refine blk_drewN ?_ _ | refine blk_drew ?_ | refine blk_alloc ?_ _)); exact BK132.out) hb); have n2_ := Aside0.mk (blk_below (g := gb133) (o := .cells #[.int .i64 0, .int .i64 0, .slice none 0 0, .int .i64 0] 26 (0, 0)) (by (with_reducible repeat (first | refine blk_drewN ?_ _ | refine blk_drew ?_ | refine blk_alloc ?_ _)); exact BK133.out) hb); have n3_ := Aside0.mk (below_step (by repeat (first | (with_reducible first | exact HB.out | apply below_alloc | apply pw_below_drewN | apply below_drew1 | refine below_set ?_ GE131.out | refine below_set ?_ GE132.out | refine below_set ?_ GE133.out) | exact HB.out)) hb); clear BK131; clear BK132; clear BK133; clear HB; have BK131 := n0_; have BK132 := n1_; have BK133 := n2_; have HB := n3_; clear n0_ n1_ n2_ n3_; (try clear hb); (try clear hb2); (try clear hk); (try clear hi); have hcz221_0 : w220.cell? ⟨gb133, 0, none⟩ = some (.int .i64 0) := (blk_cell BK133.out 0).trans rfl; have hcz221_1 : w220.cell? ⟨gb133, 1, none⟩ = some (.int .i64 0) := (blk_cell BK133.out 1).trans rfl; have hcz221_2 : w220.cell? ⟨gb133, 2, none⟩ = some (.slice none 0 0) := (blk_cell BK133.out 2).trans rfl; have hcz221_3 : w220.cell? ⟨gb133, 3, none⟩ = some (.int .i64 0) := (blk_cell BK133.out 3).trans rfl; have hfz221_0 := blk_frozen BK133.out 0; have hfz221_1 := blk_frozen BK133.out 1; have hfz221_2 := blk_frozen BK133.out 2; have hfz221_3 := blk_frozen BK133.out 3))
          refine bodyPost_ret (results_list (rs := [.cell 8 26, .tmp 9, .tmp 10, .tmp 11]) rfl (by simp) (.cell gb133 26 #[.int .i64 0, .int .i64 0, .slice none 0 0, .int .i64 0] (0, 0) _ rfl (by (with_reducible repeat (first | refine blk_drewN ?_ _ | refine blk_drew ?_ | refine blk_alloc ?_ _)); refine blk_put (cs := #[.int .i64 0, .int .i64 0, .slice none 0 0, .int .i64 0]) ?_ 3 _ rfl; (with_reducible repeat (first | refine blk_drewN ?_ _ | refine blk_drew ?_ | refine blk_alloc ?_ _)); refine blk_put (cs := #[.int .i64 0, .int .i64 0, .slice none 0 0, .int .i64 0]) ?_ 2 _ rfl; (with_reducible repeat (first | refine blk_drewN ?_ _ | refine blk_drew ?_ | refine blk_alloc ?_ _)); refine blk_put (cs := #[.int .i64 0, .int .i64 0, .slice none 0 0, .int .i64 0]) ?_ 1 _ rfl; (with_reducible repeat (first | refine blk_drewN ?_ _ | refine blk_drew ?_ | refine blk_alloc ?_ _)); refine blk_put (cs := #[.int .i64 0, .int .i64 0, .slice none 0 0, .int .i64 0]) ?_ 0 _ rfl; (with_reducible repeat (first | refine blk_drewN ?_ _ | refine blk_drew ?_ | refine blk_alloc ?_ _)); exact BK133.out) Try.underlying26 rfl (by kernel_rfl) (.tmp (.tmp (.tmp .nil))))) rfl ?_
          exact ⟨_, by first | rfl | (simp [errW_none, errW_some] <;> rfl) | (simp [*, errW_none, errW_some] <;> rfl), by first | exact Kd.R_nil _ _ _ _ _ | exact Kd.N_nil _ _ _ _ _ | exact Kd.V_nil _ _ _ _ _ | exact Kd.Q_nil _ _ _ _ _ | exact Kd.S_nil _ _ _ _ _, by repeat (first | (with_reducible first | exact HB.out | apply below_alloc | apply pw_below_drewN | apply below_drew1 | refine below_set ?_ GE131.out | refine below_set ?_ GE132.out | refine below_set ?_ GE133.out) | exact HB.out)⟩
      · replace c10 := Bool.eq_false_iff.mpr c10
        subst c10
        have H1 : (some (0, 0, ([] : List (S33)), 0, 0, false, 1)) = some (r1, r2, r3, r4, r5, r6, r7) := by rw [if_neg (show ¬ (false = true) by decide)] at H; exact H
        clear H
        have H := H1
        clear H1
        simp only [Option.some.injEq, Prod.mk.injEq] at H
        obtain ⟨rfl, rfl, rfl, rfl, rfl, rfl, rfl⟩ := H
        go_enter Try.func20, Try.ntmps20
        go_wp2_with (first | go_step3 | (simp only [Exit.noGoto_normal, Exit.noGoto_exit, Exit.noGoto_ret]) | ((with_reducible refine gate_dst (N := 4) rfl ?_); refine box_event ?hg (N := 4) ?hd (cs := #[.int .i64 a0_0, .int .i64 a0_1, .slice A0_2 l0_2.length c0_2, .int .i64 a0_3]) (t := 26) ?hr ?_; (case hd => rfl); (case hg => rfl); (case hr => first | (go_simp; done) | (go_simp; rfl)); intro gb131 hg w222 hbox hb; have n0_ := Aside0.mk (below_step (by repeat (first | (with_reducible first | exact HB.out | apply below_alloc | apply pw_below_drewN | apply below_drew1) | exact HB.out)) hb); have n1_ := Aside0.mk (hbox); have n2_ := Aside0.mk ((by rw [hg]; exact (below_size (by repeat (first | (with_reducible first | exact HB.out | apply below_alloc | apply pw_below_drewN | apply below_drew1) | exact HB.out))) : w.heap.size ≤ gb131)); have n3_ := Aside0.mk ((by rw [hg]; exact (below_size (by repeat (first | (with_reducible first | exact HB.out | apply below_alloc | apply pw_below_drewN | apply below_drew1) | exact HB.out))) : w.heap.size ≤ gb131)); clear HB; have HB := n0_; have BK131 := n1_; have GW131 := n2_; have GE131 := n3_; clear n0_ n1_ n2_ n3_; clear hb hbox hg) | ((with_reducible refine gate_dst (N := 5) rfl ?_); refine box_event ?hg (N := 5) ?hd (cs := #[.int .i64 a1_0, .int .i64 a1_1]) (t := 23) ?hr ?_; (case hd => rfl); (case hg => rfl); (case hr => first | (go_simp; done) | (go_simp; rfl)); intro gb132 hg w223 hbox hb; have n0_ := Aside0.mk (blk_below (g := gb131) (o := .cells #[.int .i64 a0_0, .int .i64 a0_1, .slice A0_2 l0_2.length c0_2, .int .i64 a0_3] 26 (0, 0)) (by (with_reducible repeat (first | refine blk_drewN ?_ _ | refine blk_drew ?_ | refine blk_alloc ?_ _)); exact BK131.out) hb); have n1_ := Aside0.mk (below_step (by repeat (first | (with_reducible first | exact HB.out | apply below_alloc | apply pw_below_drewN | apply below_drew1 | refine below_set ?_ GE131.out) | exact HB.out)) hb); have n2_ := Aside0.mk (hbox); have n3_ := Aside0.mk ((by rw [hg]; exact (below_size (by repeat (first | (with_reducible first | exact HB.out | apply below_alloc | apply pw_below_drewN | apply below_drew1 | refine below_set ?_ GE131.out) | exact HB.out))) : w.heap.size ≤ gb132)); have n4_ := Aside0.mk ((by rw [hg]; exact (below_size (by repeat (first | (with_reducible first | exact HB.out | apply below_alloc | apply pw_below_drewN | apply below_drew1 | refine below_set ?_ GE131.out) | exact HB.out))) : w.heap.size ≤ gb132)); have n5_ := Aside0.mk ((by rw [hg]; exact Nat.ne_of_lt (blk_lt (g := gb131) (o := .cells #[.int .i64 a0_0, .int .i64 a0_1, .slice A0_2 l0_2.length c0_2, .int .i64 a0_3] 26 (0, 0)) (by (with_reducible repeat (first | refine blk_drewN ?_ _ | refine blk_drew ?_ | refine blk_alloc ?_ _)); exact BK131.out)) : gb131 ≠ gb132)); have n6_ := Aside0.mk ((by rw [hg]; exact Nat.ne_of_gt (blk_lt (g := gb131) (o := .cells #[.int .i64 a0_0, .int .i64 a0_1, .slice A0_2 l0_2.length c0_2, .int .i64 a0_3] 26 (0, 0)) (by (with_reducible repeat (first | refine blk_drewN ?_ _ | refine blk_drew ?_ | refine blk_alloc ?_ _)); exact BK131.out)) : gb132 ≠ gb131)); clear BK131; clear HB; have BK131 := n0_; have HB := n1_; have BK132 := n2_; have GW132 := n3_; have GE132 := n4_; have NB131_132 := n5_; have NB132_131 := n6_; clear n0_ n1_ n2_ n3_ n4_ n5_ n6_; clear hb hbox hg) | ((with_reducible refine gate_dst (N := 8) rfl ?_); refine box_event ?hg (N := 8) ?hd (cs := #[.int .i64 0, .int .i64 0, .slice none 0 0, .int .i64 0]) (t := 26) ?hr ?_; (case hd => rfl); (case hg => rfl); (case hr => first | (go_simp; done) | (go_simp; rfl)); intro gb133 hg w224 hbox hb; have n0_ := Aside0.mk (blk_below (g := gb131) (o := .cells #[.int .i64 a0_0, .int .i64 a0_1, .slice A0_2 l0_2.length c0_2, .int .i64 a0_3] 26 (0, 0)) (by (with_reducible repeat (first | refine blk_drewN ?_ _ | refine blk_drew ?_ | refine blk_alloc ?_ _)); exact BK131.out) hb); have n1_ := Aside0.mk (blk_below (g := gb132) (o := .cells #[.int .i64 a1_0, .int .i64 a1_1] 23 (0, 0)) (by (with_reducible repeat (first | refine blk_drewN ?_ _ | refine blk_drew ?_ | refine blk_alloc ?_ _)); exact BK132.out) hb); have n2_ := Aside0.mk (below_step (by repeat (first | (with_reducible first | exact HB.out | apply below_alloc | apply pw_below_drewN | apply below_drew1 | refine below_set ?_ GE131.out | refine below_set ?_ GE132.out) | exact HB.out)) hb); have n3_ := Aside0.mk (hbox); have n4_ := Aside0.mk ((by rw [hg]; exact (below_size (by repeat (first | (with_reducible first | exact HB.out | apply below_alloc | apply pw_below_drewN | apply below_drew1 | refine below_set ?_ GE131.out | refine below_set ?_ GE132.out) | exact HB.out))) : w.heap.size ≤ gb133)); have n5_ := Aside0.mk ((by rw [hg]; exact (below_size (by repeat (first | (with_reducible first | exact HB.out | apply below_alloc | apply pw_below_drewN | apply below_drew1 | refine below_set ?_ GE131.out | refine below_set ?_ GE132.out) | exact HB.out))) : w.heap.size ≤ gb133)); have n6_ := Aside0.mk ((by rw [hg]; exact Nat.ne_of_lt (blk_lt (g := gb131) (o := .cells #[.int .i64 a0_0, .int .i64 a0_1, .slice A0_2 l0_2.length c0_2, .int .i64 a0_3] 26 (0, 0)) (by (with_reducible repeat (first | refine blk_drewN ?_ _ | refine blk_drew ?_ | refine blk_alloc ?_ _)); exact BK131.out)) : gb131 ≠ gb133)); have n7_ := Aside0.mk ((by rw [hg]; exact Nat.ne_of_gt (blk_lt (g := gb131) (o := .cells #[.int .i64 a0_0, .int .i64 a0_1, .slice A0_2 l0_2.length c0_2, .int .i64 a0_3] 26 (0, 0)) (by (with_reducible repeat (first | refine blk_drewN ?_ _ | refine blk_drew ?_ | refine blk_alloc ?_ _)); exact BK131.out)) : gb133 ≠ gb131)); have n8_ := Aside0.mk ((by rw [hg]; exact Nat.ne_of_lt (blk_lt (g := gb132) (o := .cells #[.int .i64 a1_0, .int .i64 a1_1] 23 (0, 0)) (by (with_reducible repeat (first | refine blk_drewN ?_ _ | refine blk_drew ?_ | refine blk_alloc ?_ _)); exact BK132.out)) : gb132 ≠ gb133)); have n9_ := Aside0.mk ((by rw [hg]; exact Nat.ne_of_gt (blk_lt (g := gb132) (o := .cells #[.int .i64 a1_0, .int .i64 a1_1] 23 (0, 0)) (by (with_reducible repeat (first | refine blk_drewN ?_ _ | refine blk_drew ?_ | refine blk_alloc ?_ _)); exact BK132.out)) : gb133 ≠ gb132)); clear BK131; clear BK132; clear HB; have BK131 := n0_; have BK132 := n1_; have HB := n2_; have BK133 := n3_; have GW133 := n4_; have GE133 := n5_; have NB131_133 := n6_; have NB133_131 := n7_; have NB132_133 := n8_; have NB133_132 := n9_; clear n0_ n1_ n2_ n3_ n4_ n5_ n6_ n7_ n8_ n9_; clear hb hbox hg; have hnb225 := NB131_132.out; have hnc225 := NB132_131.out; have hnb226 := NB131_133.out; have hnc226 := NB133_131.out; have hcz227_0 : w224.cell? ⟨gb131, 0, none⟩ = some (.int .i64 a0_0) := (blk_cell BK131.out 0).trans rfl; have hcz227_1 : w224.cell? ⟨gb131, 1, none⟩ = some (.int .i64 a0_1) := (blk_cell BK131.out 1).trans rfl; have hcz227_2 : w224.cell? ⟨gb131, 2, none⟩ = some (.slice A0_2 l0_2.length c0_2) := (blk_cell BK131.out 2).trans rfl; have hcz227_3 : w224.cell? ⟨gb131, 3, none⟩ = some (.int .i64 a0_3) := (blk_cell BK131.out 3).trans rfl; have hfz227_0 := blk_frozen BK131.out 0; have hfz227_1 := blk_frozen BK131.out 1; have hfz227_2 := blk_frozen BK131.out 2; have hfz227_3 := blk_frozen BK131.out 3) | ((with_reducible refine gate_callee (f := 30) rfl ?_); refine goesL_ (some 23) rfl rfl Try.func30 (by kernel_rfl) rfl #[.agg #[.int .i64 a0_0, .int .i64 a0_1, .slice A0_2 l0_2.length c0_2, .int .i64 a0_3]] rfl (by (try simp only [List.map_toArray, List.map_cons, List.map_nil]); first | done | rfl | (simp only [List.length_drop, List.length_take]; rfl)) ?_; (with_reducible refine (entries_Check.calls k a0_0 a0_1 _ _ l0_2 a0_3 t134 _ ?side1 ?side2 A5.out).mono ?_); (case side1 => repeat (first | exact (Kd.C_below HR0_2.out HB.out) | (with_reducible refine Kd.C_alloc ?_ _) | (with_reducible refine Kd.C_drewN ?_ _) | (with_reducible refine Kd.C_drew ?_))); (case side2 => exact HC0_2.out); rintro e w228 ⟨rfl, hb⟩; refine ⟨_, rfl, ?_⟩; have n0_ := Aside0.mk (blk_below (g := gb131) (o := .cells #[.int .i64 a0_0, .int .i64 a0_1, .slice A0_2 l0_2.length c0_2, .int .i64 a0_3] 26 (0, 0)) (by (with_reducible repeat (first | refine blk_drewN ?_ _ | refine blk_drew ?_ | refine blk_alloc ?_ _)); exact BK131.out) hb); have n1_ := Aside0.mk (blk_below (g := gb132) (o := .cells #[.int .i64 a1_0, .int .i64 a1_1] 23 (0, 0)) (by (with_reducible repeat (first | refine blk_drewN ?_ _ | refine blk_drew ?_ | refine blk_alloc ?_ _)); exact BK132.out) hb); have n2_ := Aside0.mk (blk_below (g := gb133) (o := .cells #[.int .i64 0, .int .i64 0, .slice none 0 0, .int .i64 0] 26 (0, 0)) (by (with_reducible repeat (first | refine blk_drewN ?_ _ | refine blk_drew ?_ | refine blk_alloc ?_ _)); exact BK133.out) hb); have n3_ := Aside0.mk (below_step (by repeat (first | (with_reducible first | exact HB.out | apply below_alloc | apply pw_below_drewN | apply below_drew1 | refine below_set ?_ GE131.out | refine below_set ?_ GE132.out | refine below_set ?_ GE133.out) | exact HB.out)) hb); clear BK131; clear BK132; clear BK133; clear HB; have BK131 := n0_; have BK132 := n1_; have BK133 := n2_; have HB := n3_; clear n0_ n1_ n2_ n3_; (try clear hb); (try clear hb2); (try clear hk); (try clear hi); have hnb229 := NB132_133.out; have hnc229 := NB133_132.out; have hcz230_0 : w228.cell? ⟨gb132, 0, none⟩ = some (.int .i64 a1_0) := (blk_cell BK132.out 0).trans rfl; have hcz230_1 : w228.cell? ⟨gb132, 1, none⟩ = some (.int .i64 a1_1) := (blk_cell BK132.out 1).trans rfl; have hfz230_0 := blk_frozen BK132.out 0; have hfz230_1 := blk_frozen BK132.out 1) | ((with_reducible refine gate_callee (f := 41) rfl ?_); refine goesL_ (some 28) rfl rfl Try.func41 (by kernel_rfl) rfl #[.agg #[.int .i64 a1_0, .int .i64 a1_1]] rfl (by (try simp only [List.map_toArray, List.map_cons, List.map_nil]); first | done | rfl | (simp only [List.length_drop, List.length_take]; rfl)) ?_; (with_reducible refine (entries_isMark.calls a1_0 a1_1 true _ A7.out).mono ?_); rintro e w231 ⟨rfl, hb⟩; refine ⟨_, rfl, ?_⟩; have n0_ := Aside0.mk (blk_below (g := gb131) (o := .cells #[.int .i64 a0_0, .int .i64 a0_1, .slice A0_2 l0_2.length c0_2, .int .i64 a0_3] 26 (0, 0)) (by (with_reducible repeat (first | refine blk_drewN ?_ _ | refine blk_drew ?_ | refine blk_alloc ?_ _)); exact BK131.out) hb); have n1_ := Aside0.mk (blk_below (g := gb132) (o := .cells #[.int .i64 a1_0, .int .i64 a1_1] 23 (0, 0)) (by (with_reducible repeat (first | refine blk_drewN ?_ _ | refine blk_drew ?_ | refine blk_alloc ?_ _)); exact BK132.out) hb); have n2_ := Aside0.mk (blk_below (g := gb133) (o := .cells #[.int .i64 0, .int .i64 0, .slice none 0 0, .int .i64 0] 26 (0, 0)) (by (with_reducible repeat (first | refine blk_drewN ?_ _ | refine blk_drew ?_ | refine blk_alloc ?_ _)); exact BK133.out) hb); have n3_ := Aside0.mk (below_step (by repeat (first | (with_reducible first | exact HB.out | apply below_alloc | apply pw_below_drewN | apply below_drew1 | refine below_set ?_ GE131.out | refine below_set ?_ GE132.out | refine below_set ?_ GE133.out) | exact HB.out)) hb); clear BK131; clear BK132; clear BK133; clear HB; have BK131 := n0_; have BK132 := n1_; have BK133 := n2_; have HB := n3_; clear n0_ n1_ n2_ n3_; (try clear hb); (try clear hb2); (try clear hk); (try clear hi)) | (go_at_call 42; (with_reducible refine (entries_within.calls a3 0 1000000 false _ A9.out).mono ?_); rintro e w' ⟨rfl, ⟨nd, rfl⟩⟩; (try (rw [drewN_self w231]; generalize hq_ : World.drewN w231 _ = w231; have n0_ : Aside0 (w231.heap[gb131]? = some (.cells #[.int .i64 a0_0, .int .i64 a0_1, .slice A0_2 l0_2.length c0_2, .int .i64 a0_3] 26 (0, 0))) := ⟨by rw [← hq_]; exact (by (with_reducible repeat (first | refine blk_drewN ?_ _ | refine blk_drew ?_ | refine blk_alloc ?_ _)); exact BK131.out)⟩; have n1_ : Aside0 (w231.heap[gb132]? = some (.cells #[.int .i64 a1_0, .int .i64 a1_1] 23 (0, 0))) := ⟨by rw [← hq_]; exact (by (with_reducible repeat (first | refine blk_drewN ?_ _ | refine blk_drew ?_ | refine blk_alloc ?_ _)); exact BK132.out)⟩; have n2_ : Aside0 (w231.heap[gb133]? = some (.cells #[.int .i64 0, .int .i64 0, .slice none 0 0, .int .i64 0] 26 (0, 0))) := ⟨by rw [← hq_]; exact (by (with_reducible repeat (first | refine blk_drewN ?_ _ | refine blk_drew ?_ | refine blk_alloc ?_ _)); exact BK133.out)⟩; have n3_ : Aside0 (Below w.heap.size w w231) := ⟨by rw [← hq_]; exact (by repeat (first | (with_reducible first | exact HB.out | apply below_alloc | apply pw_below_drewN | apply below_drew1 | refine below_set ?_ GE131.out | refine below_set ?_ GE132.out | refine below_set ?_ GE133.out) | exact HB.out))⟩; clear BK131 BK132 BK133 HB hq_; have BK131 := n0_; have BK132 := n1_; have BK133 := n2_; have HB := n3_; clear n0_ n1_ n2_ n3_)); have hcz232_0 : w231.cell? ⟨gb133, 0, none⟩ = some (.int .i64 0) := (blk_cell BK133.out 0).trans rfl; have hcz232_1 : w231.cell? ⟨gb133, 1, none⟩ = some (.int .i64 0) := (blk_cell BK133.out 1).trans rfl; have hcz232_2 : w231.cell? ⟨gb133, 2, none⟩ = some (.slice none 0 0) := (blk_cell BK133.out 2).trans rfl; have hcz232_3 : w231.cell? ⟨gb133, 3, none⟩ = some (.int .i64 0) := (blk_cell BK133.out 3).trans rfl; have hfz232_0 := blk_frozen BK133.out 0; have hfz232_1 := blk_frozen BK133.out 1; have hfz232_2 := blk_frozen BK133.out 2; have hfz232_3 := blk_frozen BK133.out 3))
        refine bodyPost_ret (results_list (rs := [.cell 8 26, .tmp 9, .tmp 10, .tmp 11]) rfl (by simp) (.cell gb133 26 #[.int .i64 0, .int .i64 0, .slice none 0 0, .int .i64 0] (0, 0) _ rfl (by (with_reducible repeat (first | refine blk_drewN ?_ _ | refine blk_drew ?_ | refine blk_alloc ?_ _)); refine blk_put (cs := #[.int .i64 0, .int .i64 0, .slice none 0 0, .int .i64 0]) ?_ 3 _ rfl; (with_reducible repeat (first | refine blk_drewN ?_ _ | refine blk_drew ?_ | refine blk_alloc ?_ _)); refine blk_put (cs := #[.int .i64 0, .int .i64 0, .slice none 0 0, .int .i64 0]) ?_ 2 _ rfl; (with_reducible repeat (first | refine blk_drewN ?_ _ | refine blk_drew ?_ | refine blk_alloc ?_ _)); refine blk_put (cs := #[.int .i64 0, .int .i64 0, .slice none 0 0, .int .i64 0]) ?_ 1 _ rfl; (with_reducible repeat (first | refine blk_drewN ?_ _ | refine blk_drew ?_ | refine blk_alloc ?_ _)); refine blk_put (cs := #[.int .i64 0, .int .i64 0, .slice none 0 0, .int .i64 0]) ?_ 0 _ rfl; (with_reducible repeat (first | refine blk_drewN ?_ _ | refine blk_drew ?_ | refine blk_alloc ?_ _)); exact BK133.out) Try.underlying26 rfl (by kernel_rfl) (.tmp (.tmp (.tmp .nil))))) rfl ?_
        exact ⟨_, by first | rfl | (simp [errW_none, errW_some] <;> rfl) | (simp [*, errW_none, errW_some] <;> rfl), by first | exact Kd.R_nil _ _ _ _ _ | exact Kd.N_nil _ _ _ _ _ | exact Kd.V_nil _ _ _ _ _ | exact Kd.Q_nil _ _ _ _ _ | exact Kd.S_nil _ _ _ _ _, by repeat (first | (with_reducible first | exact HB.out | apply below_alloc | apply pw_below_drewN | apply below_drew1 | refine below_set ?_ GE131.out | refine below_set ?_ GE132.out | refine below_set ?_ GE133.out) | exact HB.out)⟩
    · replace c8 := Bool.eq_false_iff.mpr c8
      subst c8
      have H1 : (some (0, 0, ([] : List (S33)), 0, 0, false, 1)) = some (r1, r2, r3, r4, r5, r6, r7) := by rw [if_neg (show ¬ (false = true) by decide)] at H; exact H
      clear H
      have H := H1
      clear H1
      simp only [Option.some.injEq, Prod.mk.injEq] at H
      obtain ⟨rfl, rfl, rfl, rfl, rfl, rfl, rfl⟩ := H
      go_enter Try.func20, Try.ntmps20
      go_wp2_with (first | go_step3 | (simp only [Exit.noGoto_normal, Exit.noGoto_exit, Exit.noGoto_ret]) | ((with_reducible refine gate_dst (N := 4) rfl ?_); refine box_event ?hg (N := 4) ?hd (cs := #[.int .i64 a0_0, .int .i64 a0_1, .slice A0_2 l0_2.length c0_2, .int .i64 a0_3]) (t := 26) ?hr ?_; (case hd => rfl); (case hg => rfl); (case hr => first | (go_simp; done) | (go_simp; rfl)); intro gb131 hg w233 hbox hb; have n0_ := Aside0.mk (below_step (by repeat (first | (with_reducible first | exact HB.out | apply below_alloc | apply pw_below_drewN | apply below_drew1) | exact HB.out)) hb); have n1_ := Aside0.mk (hbox); have n2_ := Aside0.mk ((by rw [hg]; exact (below_size (by repeat (first | (with_reducible first | exact HB.out | apply below_alloc | apply pw_below_drewN | apply below_drew1) | exact HB.out))) : w.heap.size ≤ gb131)); have n3_ := Aside0.mk ((by rw [hg]; exact (below_size (by repeat (first | (with_reducible first | exact HB.out | apply below_alloc | apply pw_below_drewN | apply below_drew1) | exact HB.out))) : w.heap.size ≤ gb131)); clear HB; have HB := n0_; have BK131 := n1_; have GW131 := n2_; have GE131 := n3_; clear n0_ n1_ n2_ n3_; clear hb hbox hg) | ((with_reducible refine gate_dst (N := 5) rfl ?_); refine box_event ?hg (N := 5) ?hd (cs := #[.int .i64 a1_0, .int .i64 a1_1]) (t := 23) ?hr ?_; (case hd => rfl); (case hg => rfl); (case hr => first | (go_simp; done) | (go_simp; rfl)); intro gb132 hg w234 hbox hb; have n0_ := Aside0.mk (blk_below (g := gb131) (o := .cells #[.int .i64 a0_0, .int .i64 a0_1, .slice A0_2 l0_2.length c0_2, .int .i64 a0_3] 26 (0, 0)) (by (with_reducible repeat (first | refine blk_drewN ?_ _ | refine blk_drew ?_ | refine blk_alloc ?_ _)); exact BK131.out) hb); have n1_ := Aside0.mk (below_step (by repeat (first | (with_reducible first | exact HB.out | apply below_alloc | apply pw_below_drewN | apply below_drew1 | refine below_set ?_ GE131.out) | exact HB.out)) hb); have n2_ := Aside0.mk (hbox); have n3_ := Aside0.mk ((by rw [hg]; exact (below_size (by repeat (first | (with_reducible first | exact HB.out | apply below_alloc | apply pw_below_drewN | apply below_drew1 | refine below_set ?_ GE131.out) | exact HB.out))) : w.heap.size ≤ gb132)); have n4_ := Aside0.mk ((by rw [hg]; exact (below_size (by repeat (first | (with_reducible first | exact HB.out | apply below_alloc | apply pw_below_drewN | apply below_drew1 | refine below_set ?_ GE131.out) | exact HB.out))) : w.heap.size ≤ gb132)); have n5_ := Aside0.mk ((by rw [hg]; exact Nat.ne_of_lt (blk_lt (g := gb131) (o := .cells #[.int .i64 a0_0, .int .i64 a0_1, .slice A0_2 l0_2.length c0_2, .int .i64 a0_3] 26 (0, 0)) (by (with_reducible repeat (first | refine blk_drewN ?_ _ | refine blk_drew ?_ | refine blk_alloc ?_ _)); exact BK131.out)) : gb131 ≠ gb132)); have n6_ := Aside0.mk ((by rw [hg]; exact Nat.ne_of_gt (blk_lt (g := gb131) (o := .cells #[.int .i64 a0_0, .int .i64 a0_1, .slice A0_2 l0_2.length c0_2, .int .i64 a0_3] 26 (0, 0)) (by (with_reducible repeat (first | refine blk_drewN ?_ _ | refine blk_drew ?_ | refine blk_alloc ?_ _)); exact BK131.out)) : gb132 ≠ gb131)); clear BK131; clear HB; have BK131 := n0_; have HB := n1_; have BK132 := n2_; have GW132 := n3_; have GE132 := n4_; have NB131_132 := n5_; have NB132_131 := n6_; clear n0_ n1_ n2_ n3_ n4_ n5_ n6_; clear hb hbox hg) | ((with_reducible refine gate_dst (N := 8) rfl ?_); refine box_event ?hg (N := 8) ?hd (cs := #[.int .i64 0, .int .i64 0, .slice none 0 0, .int .i64 0]) (t := 26) ?hr ?_; (case hd => rfl); (case hg => rfl); (case hr => first | (go_simp; done) | (go_simp; rfl)); intro gb133 hg w235 hbox hb; have n0_ := Aside0.mk (blk_below (g := gb131) (o := .cells #[.int .i64 a0_0, .int .i64 a0_1, .slice A0_2 l0_2.length c0_2, .int .i64 a0_3] 26 (0, 0)) (by (with_reducible repeat (first | refine blk_drewN ?_ _ | refine blk_drew ?_ | refine blk_alloc ?_ _)); exact BK131.out) hb); have n1_ := Aside0.mk (blk_below (g := gb132) (o := .cells #[.int .i64 a1_0, .int .i64 a1_1] 23 (0, 0)) (by (with_reducible repeat (first | refine blk_drewN ?_ _ | refine blk_drew ?_ | refine blk_alloc ?_ _)); exact BK132.out) hb); have n2_ := Aside0.mk (below_step (by repeat (first | (with_reducible first | exact HB.out | apply below_alloc | apply pw_below_drewN | apply below_drew1 | refine below_set ?_ GE131.out | refine below_set ?_ GE132.out) | exact HB.out)) hb); have n3_ := Aside0.mk (hbox); have n4_ := Aside0.mk ((by rw [hg]; exact (below_size (by repeat (first | (with_reducible first | exact HB.out | apply below_alloc | apply pw_below_drewN | apply below_drew1 | refine below_set ?_ GE131.out | refine below_set ?_ GE132.out) | exact HB.out))) : w.heap.size ≤ gb133)); have n5_ := Aside0.mk ((by rw [hg]; exact (below_size (by repeat (first | (with_reducible first | exact HB.out | apply below_alloc | apply pw_below_drewN | apply below_drew1 | refine below_set ?_ GE131.out | refine below_set ?_ GE132.out) | exact HB.out))) : w.heap.size ≤ gb133)); have n6_ := Aside0.mk ((by rw [hg]; exact Nat.ne_of_lt (blk_lt (g := gb131) (o := .cells #[.int .i64 a0_0, .int .i64 a0_1, .slice A0_2 l0_2.length c0_2, .int .i64 a0_3] 26 (0, 0)) (by (with_reducible repeat (first | refine blk_drewN ?_ _ | refine blk_drew ?_ | refine blk_alloc ?_ _)); exact BK131.out)) : gb131 ≠ gb133)); have n7_ := Aside0.mk ((by rw [hg]; exact Nat.ne_of_gt (blk_lt (g := gb131) (o := .cells #[.int .i64 a0_0, .int .i64 a0_1, .slice A0_2 l0_2.length c0_2, .int .i64 a0_3] 26 (0, 0)) (by (with_reducible repeat (first | refine blk_drewN ?_ _ | refine blk_drew ?_ | refine blk_alloc ?_ _)); exact BK131.out)) : gb133 ≠ gb131)); have n8_ := Aside0.mk ((by rw [hg]; exact Nat.ne_of_lt (blk_lt (g := gb132) (o := .cells #[.int .i64 a1_0, .int .i64 a1_1] 23 (0, 0)) (by (with_reducible repeat (first | refine blk_drewN ?_ _ | refine blk_drew ?_ | refine blk_alloc ?_ _)); exact BK132.out)) : gb132 ≠ gb133)); have n9_ := Aside0.mk ((by rw [hg]; exact Nat.ne_of_gt (blk_lt (g := gb132) (o := .cells #[.int .i64 a1_0, .int .i64 a1_1] 23 (0, 0)) (by (with_reducible repeat (first | refine blk_drewN ?_ _ | refine blk_drew ?_ | refine blk_alloc ?_ _)); exact BK132.out)) : gb133 ≠ gb132)); clear BK131; clear BK132; clear HB; have BK131 := n0_; have BK132 := n1_; have HB := n2_; have BK133 := n3_; have GW133 := n4_; have GE133 := n5_; have NB131_133 := n6_; have NB133_131 := n7_; have NB132_133 := n8_; have NB133_132 := n9_; clear n0_ n1_ n2_ n3_ n4_ n5_ n6_ n7_ n8_ n9_; clear hb hbox hg; have hnb236 := NB131_132.out; have hnc236 := NB132_131.out; have hnb237 := NB131_133.out; have hnc237 := NB133_131.out; have hcz238_0 : w235.cell? ⟨gb131, 0, none⟩ = some (.int .i64 a0_0) := (blk_cell BK131.out 0).trans rfl; have hcz238_1 : w235.cell? ⟨gb131, 1, none⟩ = some (.int .i64 a0_1) := (blk_cell BK131.out 1).trans rfl; have hcz238_2 : w235.cell? ⟨gb131, 2, none⟩ = some (.slice A0_2 l0_2.length c0_2) := (blk_cell BK131.out 2).trans rfl; have hcz238_3 : w235.cell? ⟨gb131, 3, none⟩ = some (.int .i64 a0_3) := (blk_cell BK131.out 3).trans rfl; have hfz238_0 := blk_frozen BK131.out 0; have hfz238_1 := blk_frozen BK131.out 1; have hfz238_2 := blk_frozen BK131.out 2; have hfz238_3 := blk_frozen BK131.out 3) | ((with_reducible refine gate_callee (f := 30) rfl ?_); refine goesL_ (some 23) rfl rfl Try.func30 (by kernel_rfl) rfl #[.agg #[.int .i64 a0_0, .int .i64 a0_1, .slice A0_2 l0_2.length c0_2, .int .i64 a0_3]] rfl (by (try simp only [List.map_toArray, List.map_cons, List.map_nil]); first | done | rfl | (simp only [List.length_drop, List.length_take]; rfl)) ?_; (with_reducible refine (entries_Check.calls k a0_0 a0_1 _ _ l0_2 a0_3 t134 _ ?side1 ?side2 A5.out).mono ?_); (case side1 => repeat (first | exact (Kd.C_below HR0_2.out HB.out) | (with_reducible refine Kd.C_alloc ?_ _) | (with_reducible refine Kd.C_drewN ?_ _) | (with_reducible refine Kd.C_drew ?_))); (case side2 => exact HC0_2.out); rintro e w239 ⟨rfl, hb⟩; refine ⟨_, rfl, ?_⟩; have n0_ := Aside0.mk (blk_below (g := gb131) (o := .cells #[.int .i64 a0_0, .int .i64 a0_1, .slice A0_2 l0_2.length c0_2, .int .i64 a0_3] 26 (0, 0)) (by (with_reducible repeat (first | refine blk_drewN ?_ _ | refine blk_drew ?_ | refine blk_alloc ?_ _)); exact BK131.out) hb); have n1_ := Aside0.mk (blk_below (g := gb132) (o := .cells #[.int .i64 a1_0, .int .i64 a1_1] 23 (0, 0)) (by (with_reducible repeat (first | refine blk_drewN ?_ _ | refine blk_drew ?_ | refine blk_alloc ?_ _)); exact BK132.out) hb); have n2_ := Aside0.mk (blk_below (g := gb133) (o := .cells #[.int .i64 0, .int .i64 0, .slice none 0 0, .int .i64 0] 26 (0, 0)) (by (with_reducible repeat (first | refine blk_drewN ?_ _ | refine blk_drew ?_ | refine blk_alloc ?_ _)); exact BK133.out) hb); have n3_ := Aside0.mk (below_step (by repeat (first | (with_reducible first | exact HB.out | apply below_alloc | apply pw_below_drewN | apply below_drew1 | refine below_set ?_ GE131.out | refine below_set ?_ GE132.out | refine below_set ?_ GE133.out) | exact HB.out)) hb); clear BK131; clear BK132; clear BK133; clear HB; have BK131 := n0_; have BK132 := n1_; have BK133 := n2_; have HB := n3_; clear n0_ n1_ n2_ n3_; (try clear hb); (try clear hb2); (try clear hk); (try clear hi); have hnb240 := NB132_133.out; have hnc240 := NB133_132.out; have hcz241_0 : w239.cell? ⟨gb132, 0, none⟩ = some (.int .i64 a1_0) := (blk_cell BK132.out 0).trans rfl; have hcz241_1 : w239.cell? ⟨gb132, 1, none⟩ = some (.int .i64 a1_1) := (blk_cell BK132.out 1).trans rfl; have hfz241_0 := blk_frozen BK132.out 0; have hfz241_1 := blk_frozen BK132.out 1) | ((with_reducible refine gate_callee (f := 41) rfl ?_); refine goesL_ (some 28) rfl rfl Try.func41 (by kernel_rfl) rfl #[.agg #[.int .i64 a1_0, .int .i64 a1_1]] rfl (by (try simp only [List.map_toArray, List.map_cons, List.map_nil]); first | done | rfl | (simp only [List.length_drop, List.length_take]; rfl)) ?_; (with_reducible refine (entries_isMark.calls a1_0 a1_1 false _ A7.out).mono ?_); rintro e w242 ⟨rfl, hb⟩; refine ⟨_, rfl, ?_⟩; have n0_ := Aside0.mk (blk_below (g := gb131) (o := .cells #[.int .i64 a0_0, .int .i64 a0_1, .slice A0_2 l0_2.length c0_2, .int .i64 a0_3] 26 (0, 0)) (by (with_reducible repeat (first | refine blk_drewN ?_ _ | refine blk_drew ?_ | refine blk_alloc ?_ _)); exact BK131.out) hb); have n1_ := Aside0.mk (blk_below (g := gb132) (o := .cells #[.int .i64 a1_0, .int .i64 a1_1] 23 (0, 0)) (by (with_reducible repeat (first | refine blk_drewN ?_ _ | refine blk_drew ?_ | refine blk_alloc ?_ _)); exact BK132.out) hb); have n2_ := Aside0.mk (blk_below (g := gb133) (o := .cells #[.int .i64 0, .int .i64 0, .slice none 0 0, .int .i64 0] 26 (0, 0)) (by (with_reducible repeat (first | refine blk_drewN ?_ _ | refine blk_drew ?_ | refine blk_alloc ?_ _)); exact BK133.out) hb); have n3_ := Aside0.mk (below_step (by repeat (first | (with_reducible first | exact HB.out | apply below_alloc | apply pw_below_drewN | apply below_drew1 | refine below_set ?_ GE131.out | refine below_set ?_ GE132.out | refine below_set ?_ GE133.out) | exact HB.out)) hb); clear BK131; clear BK132; clear BK133; clear HB; have BK131 := n0_; have BK132 := n1_; have BK133 := n2_; have HB := n3_; clear n0_ n1_ n2_ n3_; (try clear hb); (try clear hb2); (try clear hk); (try clear hi); have hcz243_0 : w242.cell? ⟨gb133, 0, none⟩ = some (.int .i64 0) := (blk_cell BK133.out 0).trans rfl; have hcz243_1 : w242.cell? ⟨gb133, 1, none⟩ = some (.int .i64 0) := (blk_cell BK133.out 1).trans rfl; have hcz243_2 : w242.cell? ⟨gb133, 2, none⟩ = some (.slice none 0 0) := (blk_cell BK133.out 2).trans rfl; have hcz243_3 : w242.cell? ⟨gb133, 3, none⟩ = some (.int .i64 0) := (blk_cell BK133.out 3).trans rfl; have hfz243_0 := blk_frozen BK133.out 0; have hfz243_1 := blk_frozen BK133.out 1; have hfz243_2 := blk_frozen BK133.out 2; have hfz243_3 := blk_frozen BK133.out 3))
      refine bodyPost_ret (results_list (rs := [.cell 8 26, .tmp 9, .tmp 10, .tmp 11]) rfl (by simp) (.cell gb133 26 #[.int .i64 0, .int .i64 0, .slice none 0 0, .int .i64 0] (0, 0) _ rfl (by (with_reducible repeat (first | refine blk_drewN ?_ _ | refine blk_drew ?_ | refine blk_alloc ?_ _)); refine blk_put (cs := #[.int .i64 0, .int .i64 0, .slice none 0 0, .int .i64 0]) ?_ 3 _ rfl; (with_reducible repeat (first | refine blk_drewN ?_ _ | refine blk_drew ?_ | refine blk_alloc ?_ _)); refine blk_put (cs := #[.int .i64 0, .int .i64 0, .slice none 0 0, .int .i64 0]) ?_ 2 _ rfl; (with_reducible repeat (first | refine blk_drewN ?_ _ | refine blk_drew ?_ | refine blk_alloc ?_ _)); refine blk_put (cs := #[.int .i64 0, .int .i64 0, .slice none 0 0, .int .i64 0]) ?_ 1 _ rfl; (with_reducible repeat (first | refine blk_drewN ?_ _ | refine blk_drew ?_ | refine blk_alloc ?_ _)); refine blk_put (cs := #[.int .i64 0, .int .i64 0, .slice none 0 0, .int .i64 0]) ?_ 0 _ rfl; (with_reducible repeat (first | refine blk_drewN ?_ _ | refine blk_drew ?_ | refine blk_alloc ?_ _)); exact BK133.out) Try.underlying26 rfl (by kernel_rfl) (.tmp (.tmp (.tmp .nil))))) rfl ?_
      exact ⟨_, by first | rfl | (simp [errW_none, errW_some] <;> rfl) | (simp [*, errW_none, errW_some] <;> rfl), by first | exact Kd.R_nil _ _ _ _ _ | exact Kd.N_nil _ _ _ _ _ | exact Kd.V_nil _ _ _ _ _ | exact Kd.Q_nil _ _ _ _ _ | exact Kd.S_nil _ _ _ _ _, by repeat (first | (with_reducible first | exact HB.out | apply below_alloc | apply pw_below_drewN | apply below_drew1 | refine below_set ?_ GE131.out | refine below_set ?_ GE132.out | refine below_set ?_ GE133.out) | exact HB.out)⟩
  · rw [if_neg c6] at H
    have c6b0 : (t134 == 0) = false := beq_eq_false_iff_ne.mpr c6
    have c6b1 : (t134 != 0) = true := bne_iff_ne.mpr c6
    simp only [Option.some.injEq, Prod.mk.injEq] at H
    obtain ⟨rfl, rfl, rfl, rfl, rfl, rfl, rfl⟩ := H
    go_enter Try.func20, Try.ntmps20
    go_wp2_with (first | go_step3 | (simp only [Exit.noGoto_normal, Exit.noGoto_exit, Exit.noGoto_ret]) | ((with_reducible refine gate_dst (N := 4) rfl ?_); refine box_event ?hg (N := 4) ?hd (cs := #[.int .i64 a0_0, .int .i64 a0_1, .slice A0_2 l0_2.length c0_2, .int .i64 a0_3]) (t := 26) ?hr ?_; (case hd => rfl); (case hg => rfl); (case hr => first | (go_simp; done) | (go_simp; rfl)); intro gb131 hg w244 hbox hb; have n0_ := Aside0.mk (below_step (by repeat (first | (with_reducible first | exact HB.out | apply below_alloc | apply pw_below_drewN | apply below_drew1) | exact HB.out)) hb); have n1_ := Aside0.mk (hbox); have n2_ := Aside0.mk ((by rw [hg]; exact (below_size (by repeat (first | (with_reducible first | exact HB.out | apply below_alloc | apply pw_below_drewN | apply below_drew1) | exact HB.out))) : w.heap.size ≤ gb131)); have n3_ := Aside0.mk ((by rw [hg]; exact (below_size (by repeat (first | (with_reducible first | exact HB.out | apply below_alloc | apply pw_below_drewN | apply below_drew1) | exact HB.out))) : w.heap.size ≤ gb131)); clear HB; have HB := n0_; have BK131 := n1_; have GW131 := n2_; have GE131 := n3_; clear n0_ n1_ n2_ n3_; clear hb hbox hg) | ((with_reducible refine gate_dst (N := 5) rfl ?_); refine box_event ?hg (N := 5) ?hd (cs := #[.int .i64 a1_0, .int .i64 a1_1]) (t := 23) ?hr ?_; (case hd => rfl); (case hg => rfl); (case hr => first | (go_simp; done) | (go_simp; rfl)); intro gb132 hg w245 hbox hb; have n0_ := Aside0.mk (blk_below (g := gb131) (o := .cells #[.int .i64 a0_0, .int .i64 a0_1, .slice A0_2 l0_2.length c0_2, .int .i64 a0_3] 26 (0, 0)) (by (with_reducible repeat (first | refine blk_drewN ?_ _ | refine blk_drew ?_ | refine blk_alloc ?_ _)); exact BK131.out) hb); have n1_ := Aside0.mk (below_step (by repeat (first | (with_reducible first | exact HB.out | apply below_alloc | apply pw_below_drewN | apply below_drew1 | refine below_set ?_ GE131.out) | exact HB.out)) hb); have n2_ := Aside0.mk (hbox); have n3_ := Aside0.mk ((by rw [hg]; exact (below_size (by repeat (first | (with_reducible first | exact HB.out | apply below_alloc | apply pw_below_drewN | apply below_drew1 | refine below_set ?_ GE131.out) | exact HB.out))) : w.heap.size ≤ gb132)); have n4_ := Aside0.mk ((by rw [hg]; exact (below_size (by repeat (first | (with_reducible first | exact HB.out | apply below_alloc | apply pw_below_drewN | apply below_drew1 | refine below_set ?_ GE131.out) | exact HB.out))) : w.heap.size ≤ gb132)); have n5_ := Aside0.mk ((by rw [hg]; exact Nat.ne_of_lt (blk_lt (g := gb131) (o := .cells #[.int .i64 a0_0, .int .i64 a0_1, .slice A0_2 l0_2.length c0_2, .int .i64 a0_3] 26 (0, 0)) (by (with_reducible repeat (first | refine blk_drewN ?_ _ | refine blk_drew ?_ | refine blk_alloc ?_ _)); exact BK131.out)) : gb131 ≠ gb132)); have n6_ := Aside0.mk ((by rw [hg]; exact Nat.ne_of_gt (blk_lt (g := gb131) (o := .cells #[.int .i64 a0_0, .int .i64 a0_1, .slice A0_2 l0_2.length c0_2, .int .i64 a0_3] 26 (0, 0)) (by (with_reducible repeat (first | refine blk_drewN ?_ _ | refine blk_drew ?_ | refine blk_alloc ?_ _)); exact BK131.out)) : gb132 ≠ gb131)); clear BK131; clear HB; have BK131 := n0_; have HB := n1_; have BK132 := n2_; have GW132 := n3_; have GE132 := n4_; have NB131_132 := n5_; have NB132_131 := n6_; clear n0_ n1_ n2_ n3_ n4_ n5_ n6_; clear hb hbox hg) | ((with_reducible refine gate_dst (N := 8) rfl ?_); refine box_event ?hg (N := 8) ?hd (cs := #[.int .i64 0, .int .i64 0, .slice none 0 0, .int .i64 0]) (t := 26) ?hr ?_; (case hd => rfl); (case hg => rfl); (case hr => first | (go_simp; done) | (go_simp; rfl)); intro gb133 hg w246 hbox hb; have n0_ := Aside0.mk (blk_below (g := gb131) (o := .cells #[.int .i64 a0_0, .int .i64 a0_1, .slice A0_2 l0_2.length c0_2, .int .i64 a0_3] 26 (0, 0)) (by (with_reducible repeat (first | refine blk_drewN ?_ _ | refine blk_drew ?_ | refine blk_alloc ?_ _)); exact BK131.out) hb); have n1_ := Aside0.mk (blk_below (g := gb132) (o := .cells #[.int .i64 a1_0, .int .i64 a1_1] 23 (0, 0)) (by (with_reducible repeat (first | refine blk_drewN ?_ _ | refine blk_drew ?_ | refine blk_alloc ?_ _)); exact BK132.out) hb); have n2_ := Aside0.mk (below_step (by repeat (first | (with_reducible first | exact HB.out | apply below_alloc | apply pw_below_drewN | apply below_drew1 | refine below_set ?_ GE131.out | refine below_set ?_ GE132.out) | exact HB.out)) hb); have n3_ := Aside0.mk (hbox); have n4_ := Aside0.mk ((by rw [hg]; exact (below_size (by repeat (first | (with_reducible first | exact HB.out | apply below_alloc | apply pw_below_drewN | apply below_drew1 | refine below_set ?_ GE131.out | refine below_set ?_ GE132.out) | exact HB.out))) : w.heap.size ≤ gb133)); have n5_ := Aside0.mk ((by rw [hg]; exact (below_size (by repeat (first | (with_reducible first | exact HB.out | apply below_alloc | apply pw_below_drewN | apply below_drew1 | refine below_set ?_ GE131.out | refine below_set ?_ GE132.out) | exact HB.out))) : w.heap.size ≤ gb133)); have n6_ := Aside0.mk ((by rw [hg]; exact Nat.ne_of_lt (blk_lt (g := gb131) (o := .cells #[.int .i64 a0_0, .int .i64 a0_1, .slice A0_2 l0_2.length c0_2, .int .i64 a0_3] 26 (0, 0)) (by (with_reducible repeat (first | refine blk_drewN ?_ _ | refine blk_drew ?_ | refine blk_alloc ?_ _)); exact BK131.out)) : gb131 ≠ gb133)); have n7_ := Aside0.mk ((by rw [hg]; exact Nat.ne_of_gt (blk_lt (g := gb131) (o := .cells #[.int .i64 a0_0, .int .i64 a0_1, .slice A0_2 l0_2.length c0_2, .int .i64 a0_3] 26 (0, 0)) (by (with_reducible repeat (first | refine blk_drewN ?_ _ | refine blk_drew ?_ | refine blk_alloc ?_ _)); exact BK131.out)) : gb133 ≠ gb131)); have n8_ := Aside0.mk ((by rw [hg]; exact Nat.ne_of_lt (blk_lt (g := gb132) (o := .cells #[.int .i64 a1_0, .int .i64 a1_1] 23 (0, 0)) (by (with_reducible repeat (first | refine blk_drewN ?_ _ | refine blk_drew ?_ | refine blk_alloc ?_ _)); exact BK132.out)) : gb132 ≠ gb133)); have n9_ := Aside0.mk ((by rw [hg]; exact Nat.ne_of_gt (blk_lt (g := gb132) (o := .cells #[.int .i64 a1_0, .int .i64 a1_1] 23 (0, 0)) (by (with_reducible repeat (first | refine blk_drewN ?_ _ | refine blk_drew ?_ | refine blk_alloc ?_ _)); exact BK132.out)) : gb133 ≠ gb132)); clear BK131; clear BK132; clear HB; have BK131 := n0_; have BK132 := n1_; have HB := n2_; have BK133 := n3_; have GW133 := n4_; have GE133 := n5_; have NB131_133 := n6_; have NB133_131 := n7_; have NB132_133 := n8_; have NB133_132 := n9_; clear n0_ n1_ n2_ n3_ n4_ n5_ n6_ n7_ n8_ n9_; clear hb hbox hg; have hnb247 := NB131_132.out; have hnc247 := NB132_131.out; have hnb248 := NB131_133.out; have hnc248 := NB133_131.out; have hcz249_0 : w246.cell? ⟨gb131, 0, none⟩ = some (.int .i64 a0_0) := (blk_cell BK131.out 0).trans rfl; have hcz249_1 : w246.cell? ⟨gb131, 1, none⟩ = some (.int .i64 a0_1) := (blk_cell BK131.out 1).trans rfl; have hcz249_2 : w246.cell? ⟨gb131, 2, none⟩ = some (.slice A0_2 l0_2.length c0_2) := (blk_cell BK131.out 2).trans rfl; have hcz249_3 : w246.cell? ⟨gb131, 3, none⟩ = some (.int .i64 a0_3) := (blk_cell BK131.out 3).trans rfl; have hfz249_0 := blk_frozen BK131.out 0; have hfz249_1 := blk_frozen BK131.out 1; have hfz249_2 := blk_frozen BK131.out 2; have hfz249_3 := blk_frozen BK131.out 3) | ((with_reducible refine gate_callee (f := 30) rfl ?_); refine goesL_ (some 23) rfl rfl Try.func30 (by kernel_rfl) rfl #[.agg #[.int .i64 a0_0, .int .i64 a0_1, .slice A0_2 l0_2.length c0_2, .int .i64 a0_3]] rfl (by (try simp only [List.map_toArray, List.map_cons, List.map_nil]); first | done | rfl | (simp only [List.length_drop, List.length_take]; rfl)) ?_; (with_reducible refine (entries_Check.calls k a0_0 a0_1 _ _ l0_2 a0_3 t134 _ ?side1 ?side2 A5.out).mono ?_); (case side1 => repeat (first | exact (Kd.C_below HR0_2.out HB.out) | (with_reducible refine Kd.C_alloc ?_ _) | (with_reducible refine Kd.C_drewN ?_ _) | (with_reducible refine Kd.C_drew ?_))); (case side2 => exact HC0_2.out); rintro e w250 ⟨rfl, hb⟩; refine ⟨_, rfl, ?_⟩; have n0_ := Aside0.mk (blk_below (g := gb131) (o := .cells #[.int .i64 a0_0, .int .i64 a0_1, .slice A0_2 l0_2.length c0_2, .int .i64 a0_3] 26 (0, 0)) (by (with_reducible repeat (first | refine blk_drewN ?_ _ | refine blk_drew ?_ | refine blk_alloc ?_ _)); exact BK131.out) hb); have n1_ := Aside0.mk (blk_below (g := gb132) (o := .cells #[.int .i64 a1_0, .int .i64 a1_1] 23 (0, 0)) (by (with_reducible repeat (first | refine blk_drewN ?_ _ | refine blk_drew ?_ | refine blk_alloc ?_ _)); exact BK132.out) hb); have n2_ := Aside0.mk (blk_below (g := gb133) (o := .cells #[.int .i64 0, .int .i64 0, .slice none 0 0, .int .i64 0] 26 (0, 0)) (by (with_reducible repeat (first | refine blk_drewN ?_ _ | refine blk_drew ?_ | refine blk_alloc ?_ _)); exact BK133.out) hb); have n3_ := Aside0.mk (below_step (by repeat (first | (with_reducible first | exact HB.out | apply below_alloc | apply pw_below_drewN | apply below_drew1 | refine below_set ?_ GE131.out | refine below_set ?_ GE132.out | refine below_set ?_ GE133.out) | exact HB.out)) hb); clear BK131; clear BK132; clear BK133; clear HB; have BK131 := n0_; have BK132 := n1_; have BK133 := n2_; have HB := n3_; clear n0_ n1_ n2_ n3_; (try clear hb); (try clear hb2); (try clear hk); (try clear hi); have hnb251 := NB133_132.out; have hnc251 := NB132_133.out; have hcz252_0 : w250.cell? ⟨gb133, 0, none⟩ = some (.int .i64 0) := (blk_cell BK133.out 0).trans rfl; have hcz252_1 : w250.cell? ⟨gb133, 1, none⟩ = some (.int .i64 0) := (blk_cell BK133.out 1).trans rfl; have hcz252_2 : w250.cell? ⟨gb133, 2, none⟩ = some (.slice none 0 0) := (blk_cell BK133.out 2).trans rfl; have hcz252_3 : w250.cell? ⟨gb133, 3, none⟩ = some (.int .i64 0) := (blk_cell BK133.out 3).trans rfl; have hfz252_0 := blk_frozen BK133.out 0; have hfz252_1 := blk_frozen BK133.out 1; have hfz252_2 := blk_frozen BK133.out 2; have hfz252_3 := blk_frozen BK133.out 3))
    refine bodyPost_ret (results_list (rs := [.cell 8 26, .tmp 9, .tmp 10, .tmp 11]) rfl (by simp) (.cell gb133 26 #[.int .i64 0, .int .i64 0, .slice none 0 0, .int .i64 0] (0, 0) _ rfl (by (with_reducible repeat (first | refine blk_drewN ?_ _ | refine blk_drew ?_ | refine blk_alloc ?_ _)); refine blk_put (cs := #[.int .i64 0, .int .i64 0, .slice none 0 0, .int .i64 0]) ?_ 3 _ rfl; (with_reducible repeat (first | refine blk_drewN ?_ _ | refine blk_drew ?_ | refine blk_alloc ?_ _)); refine blk_put (cs := #[.int .i64 0, .int .i64 0, .slice none 0 0, .int .i64 0]) ?_ 2 _ rfl; (with_reducible repeat (first | refine blk_drewN ?_ _ | refine blk_drew ?_ | refine blk_alloc ?_ _)); refine blk_put (cs := #[.int .i64 0, .int .i64 0, .slice none 0 0, .int .i64 0]) ?_ 1 _ rfl; (with_reducible repeat (first | refine blk_drewN ?_ _ | refine blk_drew ?_ | refine blk_alloc ?_ _)); refine blk_put (cs := #[.int .i64 0, .int .i64 0, .slice none 0 0, .int .i64 0]) ?_ 0 _ rfl; (with_reducible repeat (first | refine blk_drewN ?_ _ | refine blk_drew ?_ | refine blk_alloc ?_ _)); exact BK133.out) Try.underlying26 rfl (by kernel_rfl) (.tmp (.tmp (.tmp .nil))))) rfl ?_
    exact ⟨_, by first | rfl | (simp [errW_none, errW_some] <;> rfl) | (simp [*, errW_none, errW_some] <;> rfl), by first | exact Kd.R_nil _ _ _ _ _ | exact Kd.N_nil _ _ _ _ _ | exact Kd.V_nil _ _ _ _ _ | exact Kd.Q_nil _ _ _ _ _ | exact Kd.S_nil _ _ _ _ _, by repeat (first | (with_reducible first | exact HB.out | apply below_alloc | apply pw_below_drewN | apply below_drew1 | refine below_set ?_ GE131.out | refine below_set ?_ GE132.out | refine below_set ?_ GE133.out) | exact HB.out)⟩

end Go.Proofs.Ytiebeiloooblpaa.E
end
section
-- written by myprint.py, a program of this session over the kit's print.py
namespace Go.Proofs.Ytiebeiloooblpaa.E
open Go.RowKit Go.Proofs.YtiebeiloooblpaaW.PrintWords Go.Proofs.YtiebeiloooblpaaW.PrintLast Go.Proofs.YtiebeiloooblpaaW.PrintMore
attribute [local go_sem] max2_int min2_int max_two min_two max_three min_three max_four min_four   -- for this text's walks alone
set_option linter.unusedVariables false
set_option linter.unusedSimpArgs false

/-! ### slices_Min_int: function 48 -/
section

-- IMPORT Derived.Lib.Slices
def slices_Min_int.f (l0 : List Int) : Option Int := if 0 < l0.length then some (Lib.minOf l0) else none
set_option maxHeartbeats 8000000 in
set_option maxRecDepth 100000 in
theorem slices_Min_int.calls (A0 : Option Addr) (c0 : Nat) (l0 : List Int) (r : Int) (w : World) (hr0 : Kd.C (Kd.int .i64) w A0 l0.length l0) (hc0 : l0.length ≤ c0) (h : slices_Min_int.f l0 = some r) :
    Calls Try.prog 48 #[.slice A0 l0.length c0] w fun e w' => e = .returned (.int .i64 r) ∧ Drawn0 w w' := by
  unfold slices_Min_int.f at h
  by_cases hn : 0 < l0.length
  · rw [if_pos hn] at h
    obtain rfl := Option.some.inj h
    clear h
    obtain ⟨ad, hA, h0⟩ := Kd.at_int hr0 0 (Int.le_refl 0) (by omega)
    subst hA
    have hbig := Kd.C_max hr0
    have hc : ∀ j, j < l0.length → w.cell? (ad.add j) = some (.int .i64 (l0[j]?.getD 0)) := fun j hj => by
      obtain ⟨ad', e, h⟩ := Kd.at_int hr0 (j : Int) (by omega) (by omega)
      cases e
      simpa [rd, List.getD] using h
    have h00 : w.cell? ad = some (.int .i64 (l0[0]?.getD 0)) := by have := hc 0 hn; simpa [Addr.add] using this
    clear hr0 hc0 h0
    obtain ⟨n, hln⟩ : ∃ n, n = l0.length := ⟨_, rfl⟩
    rw [← hln] at hn hbig hc ⊢
    have HLN := Aside0.mk hln
    clear hln
    go_enter Try.func48, Try.ntmps48
    go_wp2
    go_loop [3, 4] (fun m i => ∃ k : Nat, 0 < k ∧ k ≤ n ∧ i = .int .i64 k ∧ m = .int .i64 (Lib.minOf (l0.take k))) (fun _ i => n - (intOf i).toNat)
    case atStart => exact ⟨1, Nat.one_pos, hn, rfl, by rw [Lib.minOf_one]; simp [List.getD]⟩
    case round =>
      obtain ⟨k, hk0, hk, rfl, rfl⟩ := hrel
      by_cases hlt : k < n
      · have hcell := hc k hlt
        go_wp2
        go_round
        case rel =>
          refine ⟨k + 1, Nat.succ_pos k, by omega, by simp, ?_⟩
          rw [Lib.minOf_step l0 k hk0 (by have := HLN.out; omega)]
          simp [List.getD]
          split <;> omega
        case measure => simp [intOf]; omega
      · obtain rfl : k = n := by omega
        have hmin : Lib.minOf (l0.take k) = Lib.minOf l0 := by have := HLN.out; rw [this, List.take_length]
        have HMIN := Aside0.mk hmin
        clear hmin
        go_wp2
        go_ret
        exact ⟨by rw [HMIN.out]; rfl, Drawn0.refl _⟩
  · rw [if_neg hn] at h
    cases h

end

end Go.Proofs.Ytiebeiloooblpaa.E
end
section
-- written by myprint.py, a program of this session over the kit's print.py
namespace Go.Proofs.Ytiebeiloooblpaa.E
open Go.RowKit Go.Proofs.YtiebeiloooblpaaW.PrintWords Go.Proofs.YtiebeiloooblpaaW.PrintLast Go.Proofs.YtiebeiloooblpaaW.PrintMore
attribute [local go_sem] max2_int min2_int max_two min_two max_three min_three max_four min_four   -- for this text's walks alone
set_option linter.unusedVariables false
set_option linter.unusedSimpArgs false

/-! ### cmp_isNaN_int: function 77 -/
def cmp_isNaN_int.f (a0 : Int) : Option (Bool) := some (a0 != a0)
set_option maxHeartbeats 8000000 in
set_option maxRecDepth 100000 in
theorem cmp_isNaN_int.calls (a0 : Int) (r : Bool) (w : World) (h : cmp_isNaN_int.f a0 = some r) :
    Calls Try.prog 77 #[.int .i64 a0] w fun e w' => e = .returned (.bool r) ∧ Drawn0 w w' := by
  have H : (some (a0 != a0)) = some r := h
  clear h
  obtain rfl := Option.some.inj H
  go_enter Try.func77, Try.ntmps77
  go_wp2
  go_ret
  exact ⟨by first | rfl | (simp; done) | (simp [*]; done), by repeat (first | exact Drawn0.refl _ | apply Drawn0.step)⟩

end Go.Proofs.Ytiebeiloooblpaa.E
end
section
-- written by myprint.py, a program of this session over the kit's print.py
namespace Go.Proofs.Ytiebeiloooblpaa.E
open Go.RowKit Go.Proofs.YtiebeiloooblpaaW.PrintWords Go.Proofs.YtiebeiloooblpaaW.PrintLast Go.Proofs.YtiebeiloooblpaaW.PrintMore
attribute [local go_sem] max2_int min2_int max_two min_two max_three min_three max_four min_four   -- for this text's walks alone
set_option linter.unusedVariables false
set_option linter.unusedSimpArgs false

/-! ### cmp_Less_int: function 67 -/
def cmp_Less_int.f (a0 : Int) (a1 : Int) : Option (Bool) := (cmp_isNaN_int.f a0).bind fun t160 => (if t160 = true then ((cmp_isNaN_int.f a1).bind fun t161 => (if t161 = true then (some (decide (a0 < a1))) else (some true))) else (some (decide (a0 < a1))))
set_option maxHeartbeats 8000000 in
set_option maxRecDepth 100000 in
theorem cmp_Less_int.calls (a0 : Int) (a1 : Int) (r : Bool) (w : World) (h : cmp_Less_int.f a0 a1 = some r) :
    Calls Try.prog 67 #[.int .i64 a0, .int .i64 a1] w fun e w' => e = .returned (.bool r) ∧ Drawn0 w w' := by
  have H : ((cmp_isNaN_int.f a0).bind fun t160 => (if t160 = true then ((cmp_isNaN_int.f a1).bind fun t161 => (if t161 = true then (some (decide (a0 < a1))) else (some true))) else (some (decide (a0 < a1))))) = some r := h
  clear h
  replace H := Option.bind_eq_some_iff.mp H
  obtain ⟨t160, A30, H⟩ := H
  replace H : (if t160 = true then ((cmp_isNaN_int.f a1).bind fun t161 => (if t161 = true then (some (decide (a0 < a1))) else (some true))) else (some (decide (a0 < a1)))) = some r := H
  have A3 := Aside0.mk A30
  clear A30
  by_cases c4 : t160 = true
  focus
    subst c4
    have H1 : ((cmp_isNaN_int.f a1).bind fun t161 => (if t161 = true then (some (decide (a0 < a1))) else (some true))) = some r := by rw [if_pos rfl] at H; exact H
    clear H
    have H := H1
    clear H1
    replace H := Option.bind_eq_some_iff.mp H
    obtain ⟨t161, A50, H⟩ := H
    replace H : (if t161 = true then (some (decide (a0 < a1))) else (some true)) = some r := H
    have A5 := Aside0.mk A50
    clear A50
    by_cases c6 : t161 = true
    focus
      subst c6
      have H1 : (some (decide (a0 < a1))) = some r := by rw [if_pos rfl] at H; exact H
      clear H
      have H := H1
      clear H1
      obtain rfl := Option.some.inj H
    rotate_left 1
    focus
      replace c6 := Bool.eq_false_iff.mpr c6
      subst c6
      have H1 : (some true) = some r := by rw [if_neg (show ¬ (false = true) by decide)] at H; exact H
      clear H
      have H := H1
      clear H1
      obtain rfl := Option.some.inj H
    rotate_left 1
  rotate_left 2
  focus
    replace c4 := Bool.eq_false_iff.mpr c4
    subst c4
    have H1 : (some (decide (a0 < a1))) = some r := by rw [if_neg (show ¬ (false = true) by decide)] at H; exact H
    clear H
    have H := H1
    clear H1
    obtain rfl := Option.some.inj H
  rotate_left 1
  all_goals
    go_enter Try.func67, Try.ntmps67
    go_wp2_with (first | ((with_reducible refine gate_callee (f := 77) rfl ?_); refine goesL_ (some 6) rfl rfl Try.func77 (by kernel_rfl) rfl #[.int .i64 a0] rfl (by (try simp only [List.map_toArray, List.map_cons, List.map_nil]); first | done | rfl | (simp only [List.length_drop, List.length_take]; rfl)) ?_; (with_reducible refine (cmp_isNaN_int.calls a0 _ _ A3.out).mono ?_); rintro e w' ⟨rfl, ⟨nd, rfl⟩⟩; refine ⟨_, rfl, ?_⟩) | (go_at_call 77; (with_reducible refine (cmp_isNaN_int.calls a1 _ _ A5.out).mono ?_); rintro e w' ⟨rfl, ⟨nd, rfl⟩⟩))
    go_ret
    exact ⟨by first | rfl | (simp; done) | (simp [*]; done), by repeat (first | exact Drawn0.refl _ | apply Drawn0.step)⟩

end Go.Proofs.Ytiebeiloooblpaa.E
end
