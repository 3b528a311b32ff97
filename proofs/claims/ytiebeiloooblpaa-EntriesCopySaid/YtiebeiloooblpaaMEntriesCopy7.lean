/- Part 7 of the proof of EntriesCopy: the texts that it needs, put together by a program of this session. -/
import Derived.ChangeArms
import Derived.Deep.Slices
import Derived.Test.YtiebeiloooblpaaRows
import Derived.Test.YtiebeiloooblpaaMEntriesCopy6
section
-- written by myprint.py, a program of this session over the kit's print.py
namespace Go.Proofs.Ytiebeiloooblpaa.E
open Go.RowKit Go.Proofs.YtiebeiloooblpaaW.PrintWords Go.Proofs.YtiebeiloooblpaaW.PrintLast Go.Proofs.YtiebeiloooblpaaW.PrintMore
attribute [local go_sem] max2_int min2_int max_two min_two max_three min_three max_four min_four   -- for this text's walks alone
set_option linter.unusedVariables false
set_option linter.unusedSimpArgs false

/-! ### rialtoref08_Copy: function 13 -/
end Go.Proofs.Ytiebeiloooblpaa.E
end
section
namespace Go.Proofs.Ytiebeiloooblpaa.Pure
open Go.RowKit Go.Proofs.Ytiebeiloooblpaa.E Go.Proofs.YtiebeiloooblpaaW.PrintWords Go.Proofs.YtiebeiloooblpaaW.PrintLast Go.Proofs.YtiebeiloooblpaaW.PrintMore Go.Proofs.YtiebeiloooblpaaEV
-- the plain law of layer 8's logs
def isEn (x : S33) : Bool := entries_isEntry.p x.f0 x.f1 x.f2
def isMk (i t : Int) : Bool := (decide (0 ≤ i) && decide (i ≤ 1000000)) && ((decide (0 ≤ t) && decide (t ≤ 1000000)) && ((i == 0) == (t == 0)))
def rows : List S33 → Int → Bool
  | [], _ => true
  | x :: l, f => isEn x && (decide (f ≤ x.f0) && rows l x.f0)
def chk (b0 b1 : Int) (l : List S33) (c : Int) : Bool := isMk b0 b1 && (decide (l.length ≤ 400) && (rows l b1 && (decide (b0 + l.length ≤ 1000000) && (decide (b0 ≤ c) && decide (c ≤ b0 + l.length)))))

theorem entries_within_eq (a b c : Int) : entries_within.f a b c = some (decide (b ≤ a) && decide (a ≤ c)) := by
  unfold entries_within.f; by_cases h : b ≤ a <;> simp [h]
theorem entries_isMark_eq (i t : Int) : entries_isMark.f i t = some (isMk i t) := by
  unfold entries_isMark.f isMk
  simp only [entries_within_eq, Option.bind_some]
  by_cases h : (decide (0 ≤ i) && decide (i ≤ 1000000)) = true
  · rw [if_pos h, h]
    by_cases g : (decide (0 ≤ t) && decide (t ≤ 1000000)) = true
    · rw [if_pos g, g]; simp
    · rw [if_neg g]; simp [Bool.eq_false_iff.mpr g]
  · rw [if_neg h]; simp [Bool.eq_false_iff.mpr h]
theorem rd33 (l : List S33) (n : Nat) : rd_T33 l (n : Int) = l.getD n z33 := by simp [rd_T33]

theorem entries_rising_l (l : List S33) (hl : l.length < 4398046511104) (m n : Nat) (hn : n + m = l.length) (a : Int) :
    Ev (fun k => entries_rising.l0 k a l (l.length : Int) (n : Int)) (rows (l.drop n) a) := by
  induction m generalizing n a with
  | zero =>
    refine Ev.succ ?_
    simp only [entries_rising.l0]
    refine Ev.neg (by omega) ?_
    rw [List.drop_eq_nil_of_le (by omega)]
    exact Ev.now _
  | succ m ih =>
    refine Ev.succ ?_
    simp only [entries_rising.l0]
    refine Ev.pos (by omega) ?_
    refine Ev.pos (by omega) ?_
    refine Ev.pos (by omega) ?_
    rw [rd33, drop_one l z33 n (by omega)]
    unfold entries_isEntry.f
    simp only [Option.bind_some, rows, isEn]
    by_cases h : entries_isEntry.p (l.getD n z33).f0 (l.getD n z33).f1 (l.getD n z33).f2 = true
    · simp only [h, if_true, Bool.true_and]
      by_cases g : (l.getD n z33).f0 < a
      · simp only [g, if_true]
        rw [decide_eq_false (show ¬ a ≤ (l.getD n z33).f0 by omega), Bool.false_and]
        exact Ev.now _
      · simp only [g, if_false]
        rw [w64 _ (by omega) (by omega)]
        have := ih (n + 1) (by omega) (l.getD n z33).f0
        rw [decide_eq_true (show a ≤ (l.getD n z33).f0 by omega), Bool.true_and]
        exact this
    · simp only [Bool.eq_false_iff.mpr h, Bool.false_eq_true, if_false, Bool.false_and]
      exact Ev.now _
theorem entries_rising_ev (l : List S33) (hl : l.length < 4398046511104) (a : Int) : Ev (fun k => entries_rising.f k l a) (rows l a) := by
  have := entries_rising_l l hl l.length 0 (by omega) a
  simpa [entries_rising.f] using this
theorem isMk_of {i t : Int} (h : isMk i t = true) : 0 ≤ i ∧ i ≤ 1000000 ∧ 0 ≤ t ∧ t ≤ 1000000 ∧ (i = 0 ↔ t = 0) := by
  simp only [isMk, Bool.and_eq_true, decide_eq_true_eq, beq_iff_eq] at h
  obtain ⟨⟨h1, h2⟩, ⟨h3, h4⟩, h5⟩ := h
  refine ⟨h1, h2, h3, h4, ?_⟩
  by_cases hi : i = 0
  · by_cases ht : t = 0
    · simp [hi, ht]
    · simp [hi, ht] at h5
  · by_cases ht : t = 0
    · simp [hi, ht] at h5
    · simp [hi, ht]
theorem chk_of {b0 b1 : Int} {l : List S33} {c : Int} (h : chk b0 b1 l c = true) : (0 ≤ b0 ∧ b0 ≤ 1000000 ∧ 0 ≤ b1 ∧ b1 ≤ 1000000 ∧ (b0 = 0 ↔ b1 = 0)) ∧ l.length ≤ 400 ∧ rows l b1 = true ∧ b0 + l.length ≤ 1000000 ∧ b0 ≤ c ∧ c ≤ b0 + l.length := by
  simp only [chk, Bool.and_eq_true, decide_eq_true_eq] at h
  obtain ⟨h1, h2, h3, h4, h5, h6⟩ := h
  exact ⟨isMk_of h1, h2, h3, h4, h5, h6⟩
theorem entries_Check_ev (b0 b1 : Int) (l : List S33) (c : Int) (hl : l.length < 4398046511104) :
    Ev (fun k => entries_Check.f k b0 b1 l c) (if chk b0 b1 l c = true then 0 else 80) := by
  unfold entries_Check.f chk
  simp only [entries_isMark_eq, Option.bind_some]
  by_cases h1 : isMk b0 b1 = true
  · have hm := isMk_of h1
    simp only [h1, if_true, Bool.true_and]
    by_cases h2 : (l.length : Int) > 400
    · simp only [h2, if_true]
      rw [decide_eq_false (show ¬ l.length ≤ 400 by omega)]
      simp only [Bool.false_and, Bool.false_eq_true, if_false]
      exact Ev.now _
    · simp only [h2, if_false]
      rw [decide_eq_true (show l.length ≤ 400 by omega)]
      simp only [Bool.true_and]
      refine Ev.bind (entries_rising_ev l hl b1) ?_
      by_cases h3 : rows l b1 = true
      · simp only [h3, if_true, Bool.true_and, entries_end.f, Option.bind_some, entries_within_eq]
        rw [w64 _ (by omega) (by omega)]
        by_cases h4 : b0 + (l.length : Int) ≤ 1000000
        · refine Ev.neg (by omega) ?_
          simp only [h4, decide_true, Bool.true_and]
          refine Ev.ite (fun h5 => ?_) (fun h5 => ?_)
          · rw [h5]; exact Ev.now _
          · rw [Bool.eq_false_iff.mpr h5]; exact Ev.now _
        · refine Ev.pos (by omega) ?_
          simp only [h4, decide_false, Bool.false_and, Bool.false_eq_true, if_false]
          exact Ev.now _
      · simp only [Bool.eq_false_iff.mpr h3, Bool.false_and, Bool.false_eq_true, if_false]
        exact Ev.now _
  · simp only [Bool.eq_false_iff.mpr h1, Bool.false_and, Bool.false_eq_true, if_false]
    exact Ev.now _
/-- the term at an index of a log -/
def termAt (b0 b1 : Int) (l : List S33) (c i : Int) : Int × Bool :=
  if chk b0 b1 l c = true ∧ b0 ≤ i ∧ i ≤ b0 + l.length then (if i = b0 then (b1, true) else ((l.getD (i - b0 - 1).toNat z33).f0, true)) else (0, false)
theorem entries_TermAt_ev (b0 b1 : Int) (l : List S33) (c i : Int) (hl : l.length < 4398046511104) :
    Ev (fun k => entries_TermAt.f k b0 b1 l c i) (termAt b0 b1 l c i) := by
  unfold entries_TermAt.f termAt
  refine Ev.bind (entries_Check_ev b0 b1 l c hl) ?_
  by_cases h1 : chk b0 b1 l c = true
  · obtain ⟨hm, hn, hr, he, hc⟩ := chk_of h1
    simp only [h1, if_true, true_and, entries_end.f, entries_within_eq, Option.bind_some]
    rw [w64 _ (by omega) (by omega)]
    refine Ev.succ ?_
    simp only [entries_TermAt.j0]
    by_cases h2 : b0 ≤ i ∧ i ≤ b0 + l.length
    · rw [if_pos h2]
      obtain ⟨h2, h3⟩ := h2
      refine Ev.neg (by simp; omega) ?_
      by_cases h4 : i = b0
      · refine Ev.eqv ?_ (if_pos h4).symm
        exact Ev.pos h4 (Ev.now _)
      · refine Ev.eqv ?_ (if_neg h4).symm
        have e : wrap64 (wrap64 (i - b0) - 1) = i - b0 - 1 := by rw [w64 (i - b0) (by omega) (by omega), w64 _ (by omega) (by omega)]
        rw [e]
        exact Ev.neg h4 (Ev.pos (by omega) (Ev.pos (by omega) (Ev.now _)))
    · rw [if_neg h2]
      exact Ev.pos (by simp; omega) (Ev.now _)
  · simp only [Bool.eq_false_iff.mpr h1, Bool.false_eq_true, if_false, false_and]
    refine Ev.neg (by omega) ?_
    refine Ev.succ ?_
    simp only [entries_TermAt.j0, if_true]
    exact Ev.now _
theorem slicesClone_Entry_eq (l : List S33) (hl : l.length < 4398046511104) : slicesClone_Entry.f l = some l := by
  unfold slicesClone_Entry.f; rw [if_pos (by omega)]
theorem rows_getD {l : List S33} {b : Int} (h : rows l b = true) (n : Nat) (hn : n < l.length) : isEn (l.getD n z33) = true ∧ b ≤ (l.getD n z33).f0 ∧ rows (l.drop (n + 1)) (l.getD n z33).f0 = true := by
  induction l generalizing b n with
  | nil => simp at hn
  | cons x l ih =>
    simp only [rows, Bool.and_eq_true, decide_eq_true_eq] at h
    obtain ⟨h1, h2, h3⟩ := h
    cases n with
    | zero => exact ⟨by simpa using h1, by simpa using h2, by simpa using h3⟩
    | succ n =>
      obtain ⟨g1, g2, g3⟩ := ih h3 n (by simpa using hn)
      refine ⟨by simpa using g1, ?_, by simpa using g3⟩
      simp only [List.getD_cons_succ]; omega
theorem isEn_term {x : S33} (h : isEn x = true) : 1 ≤ x.f0 ∧ x.f0 ≤ 1000000 := by
  simp only [isEn, entries_isEntry.p, Bool.and_eq_true, decide_eq_true_eq] at h
  exact h.1

end Go.Proofs.Ytiebeiloooblpaa.Pure
end
section
-- written by myprint.py, a program of this session over the kit's print.py
namespace Go.Proofs.Ytiebeiloooblpaa.E
open Go.Proofs.YtiebeiloooblpaaST
open Go.RowKit Go.Proofs.YtiebeiloooblpaaW.PrintWords Go.Proofs.YtiebeiloooblpaaW.PrintLast Go.Proofs.YtiebeiloooblpaaW.PrintMore
attribute [local go_sem] max2_int min2_int max_two min_two max_three min_three max_four min_four   -- for this text's walks alone
set_option linter.unusedVariables false
set_option linter.unusedSimpArgs false

/-! ### rialtoref08_Last: function 33 -/
end Go.Proofs.Ytiebeiloooblpaa.E
end
section
-- written by myprint.py, a program of this session over the kit's print.py
namespace Go.Proofs.Ytiebeiloooblpaa.E
open Go.RowKit Go.Proofs.YtiebeiloooblpaaW.PrintWords Go.Proofs.YtiebeiloooblpaaW.PrintLast Go.Proofs.YtiebeiloooblpaaW.PrintMore
attribute [local go_sem] max2_int min2_int max_two min_two max_three min_three max_four min_four   -- for this text's walks alone
set_option linter.unusedVariables false
set_option linter.unusedSimpArgs false

/-! ### rialtoref08_From: function 34 -/
end Go.Proofs.Ytiebeiloooblpaa.E
end
section
-- written by myprint.py, a program of this session over the kit's print.py
namespace Go.Proofs.Ytiebeiloooblpaa.E
open Go.RowKit Go.Proofs.YtiebeiloooblpaaW.PrintWords Go.Proofs.YtiebeiloooblpaaW.PrintLast Go.Proofs.YtiebeiloooblpaaW.PrintMore
attribute [local go_sem] max2_int min2_int max_two min_two max_three min_three max_four min_four   -- for this text's walks alone
set_option linter.unusedVariables false
set_option linter.unusedSimpArgs false

/-! ### rialtolaw08_spoil: function 23 -/
end Go.Proofs.Ytiebeiloooblpaa.E
end
section
namespace Go.Proofs.Ytiebeiloooblpaa.Pure
open Go.RowKit Go.Proofs.Ytiebeiloooblpaa.E Go.Proofs.YtiebeiloooblpaaW.PrintWords Go.Proofs.YtiebeiloooblpaaW.PrintLast Go.Proofs.YtiebeiloooblpaaW.PrintMore Go.Proofs.YtiebeiloooblpaaEV
-- the plain law of layer 8: the last mark, entries from an index on
def lastV (b0 b1 : Int) (l : List S33) (c : Int) : Int × Int := if chk b0 b1 l c = true then (b0 + l.length, (termAt b0 b1 l c (b0 + l.length)).1) else (0, 0)
theorem entries_Last_ev (b0 b1 : Int) (l : List S33) (c : Int) (hl : l.length < 4398046511104) : Ev (fun k => entries_Last.f k b0 b1 l c) (lastV b0 b1 l c) := by
  unfold entries_Last.f lastV
  refine Ev.bind (entries_Check_ev b0 b1 l c hl) ?_
  by_cases h1 : chk b0 b1 l c = true
  · obtain ⟨hm, hn, hr, he, hc⟩ := chk_of h1
    simp only [h1, if_true, entries_end.f, Option.bind_some]
    rw [w64 _ (by omega) (by omega)]
    exact Ev.bind (entries_TermAt_ev b0 b1 l c _ hl) (Ev.now _)
  · simp only [Bool.eq_false_iff.mpr h1, Bool.false_eq_true, if_false]
    exact Ev.neg (by omega) (Ev.now _)
def fromV (b0 b1 : Int) (l : List S33) (c i most : Int) : List S33 := if chk b0 b1 l c = true ∧ b0 < i ∧ i ≤ b0 + l.length ∧ 1 ≤ most then (l.drop (i - b0 - 1).toNat).take most.toNat else []
theorem take_mn (y : List S33) (m : Int) (h : 1 ≤ m) : y.take (mn m (y.length : Int)).toNat = y.take m.toNat := by
  unfold mn
  by_cases h1 : (y.length : Int) < m
  · rw [if_pos h1, List.take_of_length_le (by omega), List.take_of_length_le (by omega)]
  · rw [if_neg h1]
theorem entries_From_ev (b0 b1 : Int) (l : List S33) (c i most : Int) (hl : l.length < 4398046511104) : Ev (fun k => entries_From.f k b0 b1 l c i most) (fromV b0 b1 l c i most) := by
  unfold entries_From.f fromV
  refine Ev.bind (entries_Check_ev b0 b1 l c hl) ?_
  by_cases h1 : chk b0 b1 l c = true
  · obtain ⟨hm, hn, hr, he, hc⟩ := chk_of h1
    simp only [h1, if_true, true_and, entries_end.f, Option.bind_some]
    rw [w64 _ (by omega) (by omega)]
    by_cases h2 : i ≤ b0
    · refine Ev.eqv (Ev.pos h2 (Ev.now _)) ?_
      rw [if_neg (by omega)]
    · refine Ev.neg h2 ?_
      by_cases h3 : i > b0 + l.length
      · refine Ev.eqv (Ev.pos h3 (Ev.now _)) ?_
        rw [if_neg (by omega)]
      · refine Ev.neg h3 ?_
        by_cases h4 : most < 1
        · refine Ev.eqv (Ev.pos h4 (Ev.now _)) ?_
          rw [if_neg (by omega)]
        · refine Ev.neg h4 ?_
          rw [w64 (i - b0) (by omega) (by omega), w64 (i - b0 - 1) (by omega) (by omega)]
          have hmn : 0 ≤ mn most ((l.drop (i - b0 - 1).toNat).length : Int) ∧ mn most ((l.drop (i - b0 - 1).toNat).length : Int) ≤ ((l.drop (i - b0 - 1).toNat).length : Int) := by unfold mn; split <;> omega
          refine Ev.eqv ?_ (if_pos (show b0 < i ∧ i ≤ b0 + (l.length : Int) ∧ 1 ≤ most by omega)).symm
          refine Ev.pos (by omega) (Ev.pos (by omega) (Ev.bind (Ev.now _) (Ev.pos hmn.1 (Ev.pos hmn.2 ?_))))
          rw [take_mn _ _ (by omega), slicesClone_Entry_eq _ (by simp; omega)]
          exact Ev.bind (Ev.now _) (Ev.now _)
  · simp only [Bool.eq_false_iff.mpr h1, Bool.false_eq_true, if_false, false_and]
    exact Ev.neg (by omega) (Ev.now _)
theorem live8_ev : Ev (fun k => rialtolaw08_live.f k) true := Ev.of (k := 30) (fun k => rialtolaw08_live.mono k) (by kernel_rfl)
end Go.Proofs.Ytiebeiloooblpaa.Pure
end
section
-- written by myprint.py, a program of this session over the kit's print.py
namespace Go.Proofs.Ytiebeiloooblpaa.E
open Go.Proofs.YtiebeiloooblpaaST
open Go.RowKit Go.Proofs.YtiebeiloooblpaaW.PrintWords Go.Proofs.YtiebeiloooblpaaW.PrintLast Go.Proofs.YtiebeiloooblpaaW.PrintMore
attribute [local go_sem] max2_int min2_int max_two min_two max_three min_three max_four min_four   -- for this text's walks alone
set_option linter.unusedVariables false
set_option linter.unusedSimpArgs false

/-! ### rialtoref08_Accept: function 21 -/
end Go.Proofs.Ytiebeiloooblpaa.E
end
section
namespace Go.Proofs.Ytiebeiloooblpaa.Pure
open Go.RowKit Go.Proofs.Ytiebeiloooblpaa.E Go.Proofs.YtiebeiloooblpaaW.PrintWords Go.Proofs.YtiebeiloooblpaaW.PrintLast Go.Proofs.YtiebeiloooblpaaW.PrintMore Go.Proofs.YtiebeiloooblpaaEV
-- the plain law of layer 8: what is accepted
/-- from entry i on: the log that comes out; none: what is committed would be lost -/
def cut (b0 b1 : Int) (l : List S33) (c p0 : Int) : Nat → List S33 → Option (List S33)
  | _, [] => some l
  | i, e :: es => if p0 + 1 + i ≤ b0 then cut b0 b1 l c p0 (i + 1) es else if (termAt b0 b1 l c (p0 + 1 + i)).2 = true ∧ (termAt b0 b1 l c (p0 + 1 + i)).1 = e.f0 then cut b0 b1 l c p0 (i + 1) es
    else if p0 + 1 + i ≤ c then none else some (l.take (p0 + 1 + i - b0 - 1).toNat ++ e :: es)
def fin (b0 b1 : Int) (c p0 n cm : Int) (out : List S33) : Int × Int × List S33 × Int × Int × Bool × Int :=
  if rows out b1 = true then (if (out.length : Int) > 400 ∨ b0 + (out.length : Int) > 1000000 then (0, 0, [], 0, 0, false, 2) else (b0, b1, out, mx c (mn cm (p0 + n)), mx (p0 + n) b0, true, 0)) else (0, 0, [], 0, 0, false, 80)
def accRest (b0 b1 : Int) (l : List S33) (c p0 : Int) (es : List S33) (cm : Int) : Int × Int × List S33 × Int × Int × Bool × Int :=
  match cut b0 b1 l c p0 0 es with
  | none => (0, 0, [], 0, 0, false, 80)
  | some out => fin b0 b1 c p0 es.length cm out
def acc (b0 b1 : Int) (l : List S33) (c p0 p1 : Int) (es : List S33) (cm : Int) : Int × Int × List S33 × Int × Int × Bool × Int :=
  if chk b0 b1 l c = true then (if isMk p0 p1 = true ∧ (0 ≤ cm ∧ cm ≤ 1000000) ∧ rows es p1 = true then
    (if p0 ≥ b0 ∧ ¬ ((termAt b0 b1 l c p0).2 = true ∧ (termAt b0 b1 l c p0).1 = p1) then (b0, b1, l, c, 0, false, 0) else accRest b0 b1 l c p0 es cm)
    else (0, 0, [], 0, 0, false, 1)) else (0, 0, [], 0, 0, false, 80)
theorem termAt_end {b0 b1 : Int} {l : List S33} {c i : Int} (h : (termAt b0 b1 l c i).2 = true) : b0 ≤ i ∧ i ≤ b0 + l.length := by
  unfold termAt at h
  split at h
  · rename_i g; exact g.2
  · cases h
section
variable (b0 b1 : Int) (l : List S33) (c p0 p1 : Int) (es : List S33) (cm : Int)
theorem entries_j3 (h1 : chk b0 b1 l c = true) (hp : 0 ≤ p0 ∧ p0 ≤ 1000000) (hes : es.length ≤ 4398046510000) (out : List S33) (ho : out.length ≤ 4398046511000) :
    Ev (fun k => entries_Accept.j3 k es cm b0 b1 l c p0 p1 b0 b1 out c) (fin b0 b1 c p0 es.length cm out) := by
  obtain ⟨hm, hn, hr, he, hc⟩ := chk_of h1
  refine Ev.succ ?_
  simp only [entries_Accept.j3, entries_end.f, Option.bind_some]
  unfold fin
  refine Ev.bind (entries_rising_ev out (by omega) b1) ?_
  by_cases h2 : rows out b1 = true
  · rw [w64 (b0 + (out.length : Int)) (by omega) (by omega), w64 (p0 + (es.length : Int)) (by omega) (by omega)]
    refine Ev.eqv (Ev.pos h2 ?_) (if_pos h2).symm
    by_cases h3 : (out.length : Int) > 400
    · exact Ev.eqv (Ev.pos h3 (Ev.now _)) (if_pos (.inl h3)).symm
    · by_cases h4 : b0 + (out.length : Int) > 1000000
      · exact Ev.eqv (Ev.neg h3 (Ev.pos h4 (Ev.now _))) (if_pos (.inr h4)).symm
      · exact Ev.eqv (Ev.neg h3 (Ev.neg h4 (Ev.now _))) (if_neg (by omega)).symm
  · exact Ev.eqv (Ev.neg h2 (Ev.now _)) (if_neg h2).symm
/-- what the rest of the round answers, from entry i on -/
def restV (i : Nat) : Int × Int × List S33 × Int × Int × Bool × Int :=
  match cut b0 b1 l c p0 i (es.drop i) with
  | none => (0, 0, [], 0, 0, false, 80)
  | some out => fin b0 b1 c p0 es.length cm out
theorem entries_l0 (h1 : chk b0 b1 l c = true) (hp : 0 ≤ p0 ∧ p0 ≤ 1000000) (hes : es.length ≤ 4398046510000) (d : Nat) : ∀ i : Nat, i + d = es.length → p0 + i ≤ b0 + l.length ∨ p0 + i < b0 →
    Ev (fun k => entries_Accept.l0 k es cm es (es.length : Int) (i : Int) b0 b1 l c p0 p1 b0 b1 l c) (restV b0 b1 l c p0 es cm i) := by
  obtain ⟨hm, hn, hr, he, hc⟩ := chk_of h1
  induction d with
  | zero =>
    intro i hi hat
    refine Ev.succ ?_
    simp only [entries_Accept.l0]
    refine Ev.neg (by omega) ?_
    unfold restV
    rw [List.drop_eq_nil_of_le (by omega)]
    exact entries_j3 b0 b1 l c p0 p1 es cm h1 hp hes l (by omega)
  | succ d ih =>
    intro i hi hat
    have hdr := drop_one es z33 i (by omega)
    refine Ev.succ ?_
    simp only [entries_Accept.l0]
    rw [w64 (p0 + 1) (by omega) (by omega), w64 (p0 + 1 + (i : Int)) (by omega) (by omega), w64 ((i : Int) + 1) (by omega) (by omega)]
    refine Ev.pos (by omega) (Ev.pos (by omega) (Ev.pos (by omega) ?_))
    unfold restV
    rw [hdr]
    unfold cut
    by_cases h2 : p0 + 1 + (i : Int) ≤ b0
    · rw [if_pos h2]
      exact Ev.pos h2 (ih (i + 1) (by omega) (by omega))
    · rw [if_neg h2]
      refine Ev.neg h2 (Ev.bind (entries_TermAt_ev b0 b1 l c _ (by omega)) ?_)
      have next : Ev (fun k => entries_Accept.l0 k es cm es (es.length : Int) ((i : Int) + 1) b0 b1 l c p0 p1 b0 b1 l c) (restV b0 b1 l c p0 es cm (i + 1)) ∨ ¬ (termAt b0 b1 l c (p0 + 1 + i)).2 = true := by
        by_cases g : (termAt b0 b1 l c (p0 + 1 + i)).2 = true
        · have := termAt_end g
          exact .inl (ih (i + 1) (by omega) (by omega))
        · exact .inr g
      have bad : p0 + 1 + (i : Int) ≤ b0 + l.length + 1 := by omega
      have stop : Ev (fun k => entries_Accept.j2 k es cm (i : Int) (p0 + 1 + (i : Int)) es (es.length : Int) (i : Int) false b0 b1 l c p0 p1 b0 b1 l c)
          (match (if p0 + 1 + (i : Int) ≤ c then none else some (l.take (p0 + 1 + i - b0 - 1).toNat ++ es.getD i z33 :: es.drop (i + 1))) with | none => (0, 0, [], 0, 0, false, 80) | some out => fin b0 b1 c p0 es.length cm out) := by
        refine Ev.succ ?_
        simp only [entries_Accept.j2, Bool.false_eq_true, if_false]
        rw [w64 (p0 + 1 + (i : Int) - b0) (by omega) (by omega), w64 (p0 + 1 + (i : Int) - b0 - 1) (by omega) (by omega)]
        by_cases h3 : p0 + 1 + (i : Int) ≤ c
        · rw [if_pos h3]; exact Ev.pos h3 (Ev.now _)
        · rw [if_neg h3]
          refine Ev.neg h3 (Ev.pos (by omega) (Ev.pos (by omega) (Ev.bind (Ev.now _) (Ev.pos (by omega) (Ev.pos (by omega) (Ev.bind (Ev.now _) ?_))))))
          rw [Int.toNat_natCast, hdr]
          refine Ev.pos (by simp; omega) ?_
          exact entries_j3 b0 b1 l c p0 p1 es cm h1 hp hes _ (by simp; omega)
      by_cases h3 : (termAt b0 b1 l c (p0 + 1 + i)).2 = true
      · refine Ev.pos h3 ?_
        by_cases h4 : (termAt b0 b1 l c (p0 + 1 + i)).1 = (es.getD i z33).f0
        · rw [if_pos ⟨h3, h4⟩, rd33, h4]
          refine Ev.succ ?_
          simp only [entries_Accept.j2, beq_self_eq_true, if_true]
          rw [w64 ((i : Int) + 1) (by omega) (by omega)]
          exact next.resolve_right (fun g => g h3)
        · rw [if_neg (fun g => h4 g.2), rd33, beq_eq_false_iff_ne.mpr h4]
          exact stop
      · rw [if_neg (fun g => h3 g.1)]
        exact Ev.neg h3 stop
theorem accRest_eq : accRest b0 b1 l c p0 es cm = restV b0 b1 l c p0 es cm 0 := by
  unfold accRest restV; rw [List.drop_zero]
theorem entries_Accept_ev (hl : l.length < 4398046511104) (hes : es.length ≤ 4398046510000) : Ev (fun k => entries_Accept.f k b0 b1 l c p0 p1 es cm) (acc b0 b1 l c p0 p1 es cm) := by
  unfold entries_Accept.f acc
  refine Ev.bind (entries_Check_ev b0 b1 l c hl) ?_
  by_cases h1 : chk b0 b1 l c = true
  · obtain ⟨hm, hn, hr, he, hc⟩ := chk_of h1
    simp only [h1, if_true, entries_isMark_eq, entries_within_eq, Option.bind_some]
    by_cases h2 : isMk p0 p1 = true
    · obtain ⟨q0, q1, -, -, -⟩ := isMk_of h2
      simp only [h2, if_true, true_and]
      by_cases h3 : 0 ≤ cm ∧ cm ≤ 1000000
      · refine Ev.pos (show (decide (0 ≤ cm) && decide (cm ≤ 1000000)) = true by simp; omega) ?_
        refine Ev.bind (entries_rising_ev es (by omega) p1) ?_
        by_cases h4 : rows es p1 = true
        · simp only [h4, if_true, h3, and_self]
          rw [slicesClone_Entry_eq l hl]
          refine Ev.bind (Ev.now _) ?_
          have rest : (p0 + 0 ≤ b0 + l.length ∨ p0 + 0 < b0) → Ev (fun k => entries_Accept.j0 k es cm b0 b1 l c p0 p1 b0 b1 l c) (accRest b0 b1 l c p0 es cm) := by
            intro g
            refine Ev.succ ?_
            simp only [entries_Accept.j0]
            rw [accRest_eq]
            exact entries_l0 b0 b1 l c p0 p1 es cm h1 ⟨q0, q1⟩ hes es.length 0 (by omega) (by simpa using g)
          by_cases h5 : p0 ≥ b0
          · refine Ev.pos h5 (Ev.bind (entries_TermAt_ev b0 b1 l c p0 hl) ?_)
            by_cases h6 : (termAt b0 b1 l c p0).2 = true
            · refine Ev.pos h6 ?_
              by_cases h7 : (termAt b0 b1 l c p0).1 = p1
              · have := termAt_end h6
                exact Ev.eqv (Ev.pos h7 (rest (by omega))) (if_neg (fun g => g.2 ⟨h6, h7⟩)).symm
              · exact Ev.eqv (Ev.neg h7 (Ev.now _)) (if_pos ⟨h5, fun g => h7 g.2⟩).symm
            · exact Ev.eqv (Ev.neg h6 (Ev.now _)) (if_pos ⟨h5, fun g => h6 g.1⟩).symm
          · exact Ev.eqv (Ev.neg h5 (rest (by omega))) (if_neg (fun g => h5 g.1)).symm
        · simp only [Bool.eq_false_iff.mpr h4, Bool.false_eq_true, if_false, and_false]
          exact Ev.now _
      · exact Ev.eqv (Ev.neg (show ¬ (decide (0 ≤ cm) && decide (cm ≤ 1000000)) = true by simp; omega) (Ev.now _)) (if_neg (fun g => h3 g.1)).symm
    · simp only [Bool.eq_false_iff.mpr h2, Bool.false_eq_true, if_false, false_and]
      exact Ev.now _
  · simp only [Bool.eq_false_iff.mpr h1, Bool.false_eq_true, if_false]
    exact Ev.neg (by omega) (Ev.now _)
end
end Go.Proofs.Ytiebeiloooblpaa.Pure
end
section
namespace Go.Proofs.Ytiebeiloooblpaa.Pure
open Go.RowKit Go.Proofs.Ytiebeiloooblpaa.E Go.Proofs.YtiebeiloooblpaaW.PrintWords Go.Proofs.YtiebeiloooblpaaW.PrintLast Go.Proofs.YtiebeiloooblpaaW.PrintMore Go.Proofs.YtiebeiloooblpaaEV
-- the plain law of layer 8: what stays, and what is sent again
theorem cut_spec (b0 b1 : Int) (l : List S33) (c p0 : Int) (h1 : chk b0 b1 l c = true) : ∀ (es : List S33) (i : Nat) (out : List S33), (p0 + i ≤ b0 + l.length ∨ p0 + i < b0) → cut b0 b1 l c p0 i es = some out →
    (∀ q : Nat, (q : Int) < p0 + i - b0 → out[q]? = l[q]?) ∧ (∀ q : Nat, (q : Int) < c - b0 → out[q]? = l[q]?) ∧
    (∀ (j : Nat) (e : S33), es[j]? = some e → b0 < p0 + 1 + i + j → ∃ x, out[(p0 + i + j - b0).toNat]? = some x ∧ x.f0 = e.f0) ∧ c ≤ b0 + out.length ∧ (p0 + i ≤ b0 + out.length ∨ p0 + i < b0) := by
  obtain ⟨hm, hn, hr, he, hc⟩ := chk_of h1
  intro es
  induction es with
  | nil =>
    intro i out hi h
    simp only [cut, Option.some.injEq] at h
    subst h
    exact ⟨fun _ _ => rfl, fun _ _ => rfl, fun j e hj => by simp at hj, hc.2, hi⟩
  | cons e es ih =>
    intro i out hi h
    unfold cut at h
    by_cases h2 : p0 + 1 + (i : Int) ≤ b0
    · rw [if_pos h2] at h
      obtain ⟨A, D, C, L, I⟩ := ih (i + 1) out (by omega) h
      refine ⟨fun q hq => A q (by omega), D, fun j x hj hb => ?_, L, by omega⟩
      cases j with
      | zero => omega
      | succ j =>
        obtain ⟨y, hy⟩ := C j x (by simpa using hj) (by omega)
        exact ⟨y, by rw [← hy.1]; congr 1; omega, hy.2⟩
    · rw [if_neg h2] at h
      by_cases h3 : (termAt b0 b1 l c (p0 + 1 + i)).2 = true ∧ (termAt b0 b1 l c (p0 + 1 + i)).1 = e.f0
      · rw [if_pos h3] at h
        have hte := termAt_end h3.1
        obtain ⟨A, D, C, L, I⟩ := ih (i + 1) out (by omega) h
        refine ⟨fun q hq => A q (by omega), D, fun j x hj hb => ?_, L, by omega⟩
        cases j with
        | zero =>
          obtain rfl : e = x := by simpa using hj
          have hlt : (p0 + (i : Int) - b0).toNat < l.length := by omega
          have hA := A (p0 + (i : Int) - b0).toNat (by omega)
          have h4 := h3.2
          unfold termAt at h4
          rw [if_pos ⟨h1, by omega, by omega⟩, if_neg (by omega), show (p0 + 1 + (i : Int) - b0 - 1).toNat = (p0 + (i : Int) - b0).toNat by omega] at h4
          refine ⟨l[(p0 + (i : Int) - b0).toNat], ?_, by simpa [List.getD, hlt] using h4⟩
          rw [show (p0 + (i : Int) + ((0 : Nat) : Int) - b0).toNat = (p0 + (i : Int) - b0).toNat by omega, hA, List.getElem?_eq_getElem hlt]
        | succ j =>
          obtain ⟨y, hy⟩ := C j x (by simpa using hj) (by omega)
          exact ⟨y, by rw [← hy.1]; congr 1; omega, hy.2⟩
      · rw [if_neg h3] at h
        by_cases h4 : p0 + 1 + (i : Int) ≤ c
        · rw [if_pos h4] at h; cases h
        · rw [if_neg h4] at h
          cases h
          have hl : (l.take (p0 + 1 + (i : Int) - b0 - 1).toNat).length = (p0 + (i : Int) - b0).toNat := by rw [List.length_take]; omega
          have A : ∀ q : Nat, (q : Int) < p0 + i - b0 → (l.take (p0 + 1 + (i : Int) - b0 - 1).toNat ++ e :: es)[q]? = l[q]? := fun q hq => by
            rw [List.getElem?_append_left (by omega), List.getElem?_take_of_lt (by omega)]
          refine ⟨A, fun q hq => A q (by omega), fun j x hj hb => ⟨x, ?_, rfl⟩, by simp only [List.length_append, hl, List.length_cons]; omega, by simp only [List.length_append, hl, List.length_cons]; omega⟩
          rw [List.getElem?_append_right (by omega), hl, show (p0 + (i : Int) + (j : Int) - b0).toNat - (p0 + (i : Int) - b0).toNat = j by omega]
          exact hj
theorem mx_le {a b : Int} : a ≤ mx a b ∧ b ≤ mx a b := by unfold mx; split <;> omega
theorem mx_or (a b : Int) : mx a b = a ∨ mx a b = b := by unfold mx; split <;> simp
theorem mn_le {a b : Int} : mn a b ≤ a ∧ mn a b ≤ b := by unfold mn; split <;> omega
theorem acc_chk {b0 b1 : Int} {l : List S33} {c p0 : Int} {es : List S33} {cm : Int} {out : List S33} (h1 : chk b0 b1 l c = true) (h2 : p0 ≥ b0 → (termAt b0 b1 l c p0).2 = true) (hc : cut b0 b1 l c p0 0 es = some out) (hr : rows out b1 = true) (hn : out.length ≤ 400) (he : b0 + (out.length : Int) ≤ 1000000) :
    chk b0 b1 out (mx c (mn cm (p0 + es.length))) = true := by
  obtain ⟨-, hn', hr', he', hcc⟩ := chk_of h1
  have h3 : p0 + ((0 : Nat) : Int) ≤ b0 + l.length ∨ p0 + ((0 : Nat) : Int) < b0 := by
    by_cases g : p0 ≥ b0
    · have := termAt_end (h2 g); omega
    · omega
  obtain ⟨A, D, C, L, I⟩ := cut_spec b0 b1 l c p0 h1 es 0 out h3 hc
  have hmk : isMk b0 b1 = true := by simp only [chk, Bool.and_eq_true] at h1; exact h1.1
  have a1 := @mx_le c (mn cm (p0 + es.length))
  have a2 := @mn_le cm (p0 + es.length)
  simp only [chk, hmk, hr, Bool.true_and, Bool.and_eq_true, decide_eq_true_eq]
  refine ⟨hn, he, by omega, ?_⟩
  rcases mx_or c (mn cm (p0 + es.length)) with e | e
  · rw [e]; exact L
  · rw [e]
    by_cases g : p0 + (es.length : Int) ≤ b0
    · omega
    · by_cases h0 : es.length = 0
      · omega
      · obtain ⟨x, hx, -⟩ := C (es.length - 1) es[es.length - 1] (List.getElem?_eq_getElem (by omega)) (by omega)
        have := (List.getElem?_eq_some_iff.1 hx).1
        omega
end Go.Proofs.Ytiebeiloooblpaa.Pure
end
section
namespace Go.Proofs.Ytiebeiloooblpaa.Pure
open Go.RowKit Go.Proofs.Ytiebeiloooblpaa.E Go.Proofs.YtiebeiloooblpaaW.PrintWords Go.Proofs.YtiebeiloooblpaaW.PrintLast Go.Proofs.YtiebeiloooblpaaW.PrintMore Go.Proofs.YtiebeiloooblpaaEV
def lastT : List S33 → Int → Int
  | [], f => f
  | x :: l, _ => lastT l x.f0
def tm (f : Int) (l : List S33) (n : Nat) : Int := if n = 0 then f else (l.getD (n - 1) z33).f0
theorem rows_app (a b : List S33) : ∀ f, rows (a ++ b) f = (rows a f && rows b (lastT a f)) := by
  induction a with
  | nil => intro f; simp [rows, lastT]
  | cons x a ih => intro f; simp only [List.cons_append, rows, lastT, ih, Bool.and_assoc]
theorem lastT_take (l : List S33) : ∀ (n : Nat) (f : Int), n ≤ l.length → lastT (l.take n) f = tm f l n := by
  induction l with
  | nil => intro n f h; obtain rfl : n = 0 := by simpa using h
           rfl
  | cons x l ih =>
    intro n f h
    cases n with
    | zero => rfl
    | succ n =>
      rw [List.take_succ_cons, lastT, ih n x.f0 (by simpa using h)]
      cases n with
      | zero => simp [tm]
      | succ n => simp [tm]
theorem rows_take {l : List S33} {f : Int} (h : rows l f = true) (n : Nat) : rows (l.take n) f = true := by
  have := rows_app (l.take n) (l.drop n) f
  rw [List.take_append_drop, h] at this
  exact (Bool.and_eq_true_iff.1 this.symm).1
theorem rows_dropT {l : List S33} {f : Int} (h : rows l f = true) (n : Nat) (hn : n ≤ l.length) : rows (l.drop n) (tm f l n) = true := by
  have := rows_app (l.take n) (l.drop n) f
  rw [List.take_append_drop, h, lastT_take l n f hn] at this
  exact (Bool.and_eq_true_iff.1 this.symm).2
theorem termAt_tm {b0 b1 : Int} {l : List S33} {c : Int} (h : chk b0 b1 l c = true) {n : Nat} (hn : n ≤ l.length) : termAt b0 b1 l c (b0 + n) = (tm b1 l n, true) := by
  unfold termAt tm
  rw [if_pos ⟨h, by omega, by omega⟩]
  by_cases h0 : n = 0
  · rw [if_pos (by omega), if_pos h0]
  · rw [if_neg (by omega), if_neg h0, show (b0 + (n : Int) - b0 - 1).toNat = n - 1 by omega]
theorem copy_cut {b0 b1 : Int} {l w : List S33} {c' : Int} (h1 : chk b0 b1 l b0 = true) (h2 : chk b0 b1 w c' = true) (n0 : Nat) (d : Nat) : ∀ i : Nat, n0 + i + d = w.length → n0 + i ≤ l.length → tm b1 l (n0 + i) = tm b1 w (n0 + i) →
    ∃ out, cut b0 b1 l b0 (b0 + n0) i (w.drop (n0 + i)) = some out ∧ rows out b1 = true := by
  obtain ⟨-, -, hr, -, -⟩ := chk_of h1
  obtain ⟨-, -, hw, -, -⟩ := chk_of h2
  induction d with
  | zero =>
    intro i hi hl ht
    exact ⟨l, by rw [List.drop_eq_nil_of_le (by omega)]; rfl, hr⟩
  | succ d ih =>
    intro i hi hl ht
    rw [drop_one w z33 (n0 + i) (by omega)]
    unfold cut
    rw [if_neg (by omega)]
    by_cases h3 : (termAt b0 b1 l b0 (b0 + n0 + 1 + i)).2 = true ∧ (termAt b0 b1 l b0 (b0 + n0 + 1 + i)).1 = (w.getD (n0 + i) z33).f0
    · have hte := termAt_end h3.1
      rw [if_pos h3]
      have h4 := h3.2
      rw [show b0 + (n0 : Int) + 1 + (i : Int) = b0 + ((n0 + i + 1 : Nat) : Int) by omega, termAt_tm h1 (by omega)] at h4
      exact ih (i + 1) (by omega) (by omega) (h4.trans (by unfold tm; rw [if_neg (by omega)]; rfl))
    · rw [if_neg h3, if_neg (by omega)]
      refine ⟨_, rfl, ?_⟩
      rw [← drop_one w z33 (n0 + i) (by omega), show (b0 + (n0 : Int) + 1 + (i : Int) - b0 - 1).toNat = n0 + i by omega, rows_app, lastT_take l _ b1 hl, ht, rows_take hr, rows_dropT hw _ (by omega)]
      rfl
theorem copy_loop {b0 b1 : Int} {out w : List S33} {c c' : Int} (h1 : chk b0 b1 out c = true) (h2 : chk b0 b1 w c' = true) (n0 : Nat) (hT : ∀ q : Nat, n0 ≤ q → q ≤ w.length → q ≤ out.length ∧ tm b1 out q = tm b1 w q) (d : Nat) : ∀ q : Nat, n0 ≤ q → q + d = w.length + 1 →
    Ev (fun k => rialtolaw08_EntriesCopy.l0 k (b0 + w.length) (b0 + q) b0 b1 w c' b0 b1 out c) true := by
  obtain ⟨hm, hn, -, he, -⟩ := chk_of h1
  obtain ⟨-, hn', -, he', -⟩ := chk_of h2
  induction d with
  | zero =>
    intro q hq hd
    refine Ev.succ ?_
    simp only [rialtolaw08_EntriesCopy.l0]
    exact Ev.neg (by omega) (Ev.bind live8_ev (Ev.now _))
  | succ d ih =>
    intro q hq hd
    obtain ⟨hl, ht⟩ := hT q hq (by omega)
    refine Ev.succ ?_
    simp only [rialtolaw08_EntriesCopy.l0]
    refine Ev.pos (by omega) (Ev.bind (entries_TermAt_ev b0 b1 out c _ (by omega)) (Ev.bind (entries_TermAt_ev b0 b1 w c' _ (by omega)) ?_))
    rw [termAt_tm h1 hl, termAt_tm h2 (show q ≤ w.length by omega)]
    refine Ev.pos ht ?_
    rw [w64 _ (by omega) (by omega), show b0 + (q : Int) + 1 = b0 + ((q + 1 : Nat) : Int) by omega]
    exact ih (q + 1) (by omega) (by omega)
theorem copy_j2 {b0 b1 : Int} {l w : List S33} {c' : Int} (h1 : chk b0 b1 l b0 = true) (h2 : chk b0 b1 w c' = true) (n0 : Nat) (hl : n0 ≤ l.length) (hw : n0 ≤ w.length) (ht : tm b1 l n0 = tm b1 w n0) :
    Ev (fun k => rialtolaw08_EntriesCopy.j2 k (b0 + n0) (tm b1 w n0) false b0 b1 l b0 b0 b1 w c') true := by
  obtain ⟨hm, hn, hr, he, -⟩ := chk_of h1
  obtain ⟨-, hn', hr', he', -⟩ := chk_of h2
  refine Ev.succ ?_
  simp only [rialtolaw08_EntriesCopy.j2, Bool.false_eq_true, if_false]
  rw [w64 _ (by omega) (by omega)]
  refine Ev.bind (entries_From_ev b0 b1 w c' _ _ (by omega)) ?_
  have hf : fromV b0 b1 w c' (b0 + n0 + 1) 400 = w.drop n0 := by
    unfold fromV
    by_cases g : n0 < w.length
    · rw [if_pos ⟨h2, by omega, by omega, by omega⟩, List.take_of_length_le (by rw [List.length_drop]; omega), show (b0 + (n0 : Int) + 1 - b0 - 1).toNat = n0 by omega]
    · rw [if_neg (by omega), List.drop_eq_nil_of_le (by omega)]
  rw [hf]
  have hacc := entries_Accept_ev b0 b1 l b0 (b0 + n0) (tm b1 w n0) (w.drop n0) 0 (by omega) (by rw [List.length_drop]; omega)
  obtain ⟨out, hc, hro⟩ := copy_cut h1 h2 n0 (w.length - n0) 0 (by omega) (by omega) ht
  rw [Nat.add_zero] at hc
  have hmk : isMk (b0 + n0) (tm b1 w n0) = true := by
    by_cases h0 : n0 = 0
    · have : isMk b0 b1 = true := by simp only [chk, Bool.and_eq_true] at h1; exact h1.1
      simpa [h0, tm] using this
    · have g := isEn_term (rows_getD hr' (n0 - 1) (by omega)).1
      have e : tm b1 w n0 = (w.getD (n0 - 1) z33).f0 := by unfold tm; rw [if_neg h0]
      rw [e]
      simp only [isMk, Bool.and_eq_true, decide_eq_true_eq]
      refine ⟨by omega, by omega, ?_⟩
      rw [beq_eq_false_iff_ne.mpr (show b0 + (n0 : Int) ≠ 0 by omega), beq_eq_false_iff_ne.mpr (show (w.getD (n0 - 1) z33).f0 ≠ 0 by omega)]; rfl
  have hres : acc b0 b1 l b0 (b0 + n0) (tm b1 w n0) (w.drop n0) 0 = fin b0 b1 b0 (b0 + n0) (w.drop n0).length 0 out := by
    unfold acc accRest
    rw [if_pos h1, if_pos ⟨hmk, by omega, rows_dropT hr' n0 hw⟩, if_neg (fun g => g.2 (by rw [termAt_tm h1 hl]; exact ⟨rfl, ht⟩)), hc]
  unfold fin at hres
  rw [if_pos hro] at hres
  by_cases h5 : (out.length : Int) > 400 ∨ b0 + (out.length : Int) > 1000000
  · rw [if_pos h5] at hres
    refine Ev.bind (Ev.eqv hacc hres) ?_
    exact Ev.neg (by simp) (Ev.pos rfl (Ev.bind live8_ev (Ev.now _)))
  · rw [if_neg h5] at hres
    refine Ev.bind (Ev.eqv hacc hres) ?_
    have hk := acc_chk (cm := 0) h1 (fun _ => by rw [termAt_tm h1 hl]) hc hro (by omega) (by omega)
    obtain ⟨A, D, C, L, I⟩ := cut_spec b0 b1 l b0 (b0 + n0) h1 _ 0 out (by omega) hc
    have hto : mx (b0 + (n0 : Int) + ((w.drop n0).length : Int)) b0 = b0 + w.length := by rw [List.length_drop]; unfold mx; split <;> omega
    refine Ev.pos rfl (Ev.pos rfl (Ev.bind (entries_Last_ev b0 b1 w c' (by omega)) (Ev.succ ?_)))
    simp only [rialtolaw08_EntriesCopy.j3]
    rw [hto]
    refine Ev.neg (by simp [lastV, h2]) ?_
    refine copy_loop hk h2 n0 (fun q hq hqw => ?_) (w.length + 1 - n0) n0 (Nat.le_refl _) (by omega)
    by_cases e : q = n0
    · subst e
      refine ⟨by omega, ?_⟩
      rw [← ht]
      unfold tm
      by_cases h0 : q = 0
      · rw [if_pos h0, if_pos h0]
      · rw [if_neg h0, if_neg h0]
        simp only [List.getD, A (q - 1) (by omega)]
    · obtain ⟨x, hx, hf0⟩ := C (q - n0 - 1) w[q - 1] (by rw [List.getElem?_drop, show n0 + (q - n0 - 1) = q - 1 by omega]; exact List.getElem?_eq_getElem (by omega)) (by omega)
      rw [show (b0 + (n0 : Int) + ((0 : Nat) : Int) + ((q - n0 - 1 : Nat) : Int) - b0).toNat = q - 1 by omega] at hx
      have := (List.getElem?_eq_some_iff.1 hx).1
      refine ⟨by omega, ?_⟩
      unfold tm
      rw [if_neg (by omega), if_neg (by omega)]
      simp only [List.getD, hx, List.getElem?_eq_getElem (show q - 1 < w.length by omega), Option.getD_some]
      exact hf0
theorem EntriesCopy : rialtolaw08_EntriesCopy.Pure := by
  intro b0 b1 l c m0 m1 w c' at_ hb0 hb1 hl hc hm0 hm1 hw hc' hat
  have hn : l.length < 4398046511104 := by have := hl.1; omega
  have hnw : w.length < 4398046511104 := by have := hw.1; omega
  have wat := wf64 hat
  have no : Ev (fun k => rialtolaw08_EntriesCopy.j0 k at_ true b0 b1 l c m0 m1 w c') true := by
    refine Ev.succ ?_
    simp only [rialtolaw08_EntriesCopy.j0, if_true]
    exact Ev.bind live8_ev (Ev.now _)
  refine Ev.rounds ?_
  unfold rialtolaw08_EntriesCopy.f
  refine Ev.bind (entries_Check_ev b0 b1 l c hn) ?_
  by_cases h1 : chk b0 b1 l c = true
  · simp only [h1, if_true]
    refine Ev.bind (entries_Check_ev m0 m1 w c' hnw) ?_
    by_cases h2 : chk m0 m1 w c' = true
    · simp only [h2, if_true]
      by_cases h3 : (!(b0 == m0) || (!(b1 == m1))) = true
      · exact Ev.pos h3 no
      · refine Ev.neg h3 ?_
        simp only [Bool.or_eq_true, Bool.not_eq_true', beq_eq_false_iff_ne, not_or, Classical.not_not] at h3
        obtain ⟨rfl, rfl⟩ := h3
        by_cases h4 : c = b0
        · subst h4
          obtain ⟨hm, hn1, -, he, -⟩ := chk_of h1
          obtain ⟨-, hn2, -, he', -⟩ := chk_of h2
          simp only [bne_self_eq_false]
          have go : ∀ a : Int, 0 ≤ a → a ≤ 9223372036854775807 → Ev (fun k => rialtolaw08_EntriesCopy.j1 k a c b1 l c c b1 w c') true := by
            intro a ha ha'
            refine Ev.succ ?_
            simp only [rialtolaw08_EntriesCopy.j1]
            rw [w64 ((w.length : Int) + 1) (by omega) (by omega)]
            have hmod : Int.tmod a ((w.length : Int) + 1) = a % ((w.length : Int) + 1) := Int.tmod_eq_emod_of_nonneg ha
            obtain ⟨n0, hn0⟩ : ∃ n0 : Nat, (n0 : Int) = a % ((w.length : Int) + 1) := ⟨(a % ((w.length : Int) + 1)).toNat, by have := Int.emod_nonneg a (show ((w.length : Int) + 1) ≠ 0 by omega); omega⟩
            have hlt := Int.emod_lt_of_pos a (show (0 : Int) < (w.length : Int) + 1 by omega)
            rw [hmod, ← hn0, w64 (c + (n0 : Int)) (by omega) (by omega)]
            refine Ev.neg (by omega) (Ev.bind (entries_TermAt_ev c b1 l c _ hn) (Ev.bind (entries_TermAt_ev c b1 w c' _ hnw) ?_))
            rw [termAt_tm h2 (show n0 ≤ w.length by omega)]
            have stop : ∀ t, Ev (fun k => rialtolaw08_EntriesCopy.j2 k (c + n0) t true c b1 l c c b1 w c') true := fun t => by
              refine Ev.succ ?_
              simp only [rialtolaw08_EntriesCopy.j2, if_true]
              exact Ev.bind live8_ev (Ev.now _)
            by_cases h5 : (termAt c b1 l c (c + n0)).2 = true
            · have hte := termAt_end h5
              rw [termAt_tm h1 (show n0 ≤ l.length by omega)]
              refine Ev.pos rfl (Ev.pos rfl ?_)
              by_cases h6 : tm b1 l n0 = tm b1 w n0
              · rw [h6, bne_self_eq_false]
                exact copy_j2 h1 h2 n0 (by omega) (by omega) h6
              · rw [show (tm b1 l n0 != tm b1 w n0) = true by simpa using h6]
                exact stop _
            · exact Ev.neg h5 (stop _)
          refine Ev.succ ?_
          simp only [rialtolaw08_EntriesCopy.j0, Bool.false_eq_true, if_false]
          by_cases h7 : at_ < 0
          · rw [w64 (at_ + 1) (by omega) (by omega), w64 (-(at_ + 1)) (by omega) (by omega)]
            exact Ev.pos h7 (go _ (by omega) (by omega))
          · exact Ev.neg h7 (go _ (by omega) (by omega))
        · rw [show (c != b0) = true by simpa using h4]
          exact no
    · simp only [Bool.eq_false_iff.mpr h2, Bool.false_eq_true, if_false]
      exact Ev.neg (by omega) no
  · simp only [Bool.eq_false_iff.mpr h1, Bool.false_eq_true, if_false]
    exact Ev.neg (by omega) no

end Go.Proofs.Ytiebeiloooblpaa.Pure
end
section
/- Helper lemmas of this session: an argument that reads as data, opened to plain values, whatever its type's depth; and what its size says. -/
namespace Go.Proofs.YtiebeiloooblpaaO
open Go.RowKit Go.Proofs.YtiebeiloooblpaaW.PrintWords Go.Deep

/-- What a bound on a reading says of its slices' lengths (S) and its strings' (T), at every depth. -/
structure Sizes (P : Program) (Bd : (H : Type) → TypeId → DataW H → Prop) (S : TypeId → Nat → Prop) (T : Nat → Prop) : Prop where
  slice : ∀ (H : Type) (t e : TypeId) (es sp : List (DataW H)), P.underlying t = some (.slice e) → Bd H t (.slice es sp) → S e es.length ∧ ∀ d ∈ es, Bd H e d
  zero : ∀ e, S e 0
  string : ∀ (H : Type) (t : TypeId) (bs : List UInt8), Bd H t (.lit (.string bs)) → T bs.length
  struct : ∀ (H : Type) (t : TypeId) (fs : Array Field) (ps : List (DataW H)), P.underlying t = some (.struct fs) → Bd H t (.agg ps) → ∀ (i : Nat) (f : Field) (p : DataW H), fs[i]? = some f → ps[i]? = some p → Bd H f.type p

/-- Values of type t read as d's; G: what is known of them. -/
structure Opens {α : Type} (P : Program) (Bd : (H : Type) → TypeId → DataW H → Prop) (t : TypeId) (d : Kd α) (G : α → Prop) : Prop where
  go : ∀ (H : Type) (enc : TypeId × Value → H) (w : World) (base : Nat) (spare : Nat → Bool) (held : Bool) (fuel : Nat) (cs : List Value) (x : DataW H × List MemPlace),
    DataW.trod enc P w base spare held fuel t cs = some x → Bd H t x.1 → ∃ v, d.K w v cs ∧ G v

theorem add_add' (a : Addr) (i j : Nat) : (a.add i).add j = a.add (i + j) := by
  unfold Addr.add
  by_cases h1 : i = 0 <;> by_cases h2 : j = 0 <;> simp [h1, h2, Nat.add_assoc]
theorem listOf {α : Type} {Q : Nat → α → Prop} : ∀ n, (∀ i, i < n → ∃ v, Q i v) → ∃ xs : List α, xs.length = n ∧ ∀ i p, xs[i]? = some p → Q i p
  | 0, _ => ⟨[], rfl, fun i p h => by simp at h⟩
  | n + 1, h => by
    obtain ⟨xs, hl, hx⟩ := listOf n (fun i hi => h i (by omega))
    obtain ⟨v, hv⟩ := h n (Nat.lt_succ_self n)
    refine ⟨xs ++ [v], by simp [hl], fun i p hp => ?_⟩
    rcases Nat.lt_or_ge i xs.length with hi | hi
    · rw [List.getElem?_append_left hi] at hp
      exact hx i p hp
    · have hlt := (List.getElem?_eq_some_iff.1 hp).1
      rw [List.length_append, List.length_singleton] at hlt
      obtain rfl : i = n := by omega
      rw [List.getElem?_append_right hi] at hp
      simp [hl] at hp
      subst hp
      exact hv

section
variable {P : Program} {Bd : (H : Type) → TypeId → DataW H → Prop} {S : TypeId → Nat → Prop} {T : Nat → Prop}

theorem Opens.int {t : TypeId} {k : IntKind} (ht : P.underlying t = some (.int k)) : Opens P Bd t (Kd.int k) (fun n => (Lit.int k n).wf = true) where
  go H enc w base spare held fuel cs x h hb := by
    obtain ⟨n, rfl, _, hw⟩ := DataW.trod_int ht h
    exact ⟨n, rfl, hw⟩
theorem Opens.string (Z : Sizes P Bd S T) {t : TypeId} (ht : P.underlying t = some .string) : Opens P Bd t Kd.string (fun s => T s.size) where
  go H enc w base spare held fuel cs x h hb := by
    obtain ⟨s, rfl, rfl, _⟩ := DataW.trod_string ht h
    have h1 := Z.string H t _ hb
    rw [Array.length_toList] at h1
    exact ⟨s, rfl, h1⟩
theorem Opens.iso {α β : Type} {d : Kd α} {G : α → Prop} {t : TypeId} (f : β → α) (g : α → β) (hfg : ∀ y, f (g y) = y) (O : Opens P Bd t d G) : Opens P Bd t (Kd.iso d f) (fun x => G (f x)) where
  go H enc w base spare held fuel cs x h hb := by
    obtain ⟨v, hK, hG⟩ := O.go H enc w base spare held fuel cs x h hb
    exact ⟨g v, by show d.K w (f (g v)) cs; rw [hfg]; exact hK, by show G (f (g v)); rw [hfg]; exact hG⟩
theorem Opens.bool {t : TypeId} (ht : P.underlying t = some .bool) : Opens P Bd t Kd.bool (fun _ => True) where
  go H enc w base spare held fuel cs x h hb := by
    cases fuel with
    | zero => simp [DataW.trod] at h
    | succ n =>
      unfold DataW.trod at h
      rw [ht] at h
      split at h <;> first | exact ⟨_, rfl, trivial⟩ | simp_all
theorem Opens.slice (Z : Sizes P Bd S T) {α : Type} {d : Kd α} {G : α → Prop} {t e : TypeId} {S' : Nat → Prop} (hS : ∀ n, S e n → S' n) (ht : P.underlying t = some (.slice e)) (hs : P.cellsOf e = d.sz) (O : Opens P Bd e d G) :
    Opens P Bd t (Kd.slice e d) (fun xs => S' xs.length ∧ ∀ x ∈ xs, G x) where
  go H enc w base spare held fuel cs x h hb := by
    rcases open_slice ht h with ⟨rfl, rfl⟩ | ⟨a, len, cap, m, n, D, Pl, rfl, _, hl, hm, hmm, rfl, hi⟩
    · exact ⟨[], ⟨none, 0, rfl, Nat.le_refl _, Kd.C_nil d w⟩, hS _ (Z.zero e), fun x h => by cases h⟩
    · have hlm : len ≤ m := by rw [hmm]; split <;> omega
      obtain ⟨h1, h2⟩ := Z.slice H t e _ _ ht hb
      rw [List.length_map, List.length_range] at h1
      replace h1 := hS _ h1
      have hel : ∀ i, i < len → ∃ v cs', d.K w v cs' ∧ G v ∧ (∀ j u, cs'[j]? = some u → w.cell? (a.add (i * d.sz + j)) = some u) := by
        intro i hil
        obtain ⟨cs', hc, htr⟩ := hi i (by omega)
        rw [hs] at hc
        obtain ⟨_, hcl, hat⟩ := World.cells?_some hc
        obtain ⟨v, hK, hG⟩ := O.go H enc w base spare held n cs' _ htr (h2 _ (List.mem_map.2 ⟨i, List.mem_range.2 hil, rfl⟩))
        refine ⟨v, cs', hK, hG, fun j u hu => ?_⟩
        have hj : j < d.sz := by rw [← hcl]; exact (List.getElem?_eq_some_iff.1 hu).1
        rw [← add_add', hat j hj, hu]
      obtain ⟨xs, hxl, hx⟩ := listOf len hel
      refine ⟨xs, ⟨some a, cap, by rw [hxl], by rw [hxl]; exact hl, ⟨rfl, by rw [hxl]; simp only [maxLen] at hm; omega, fun hp => ⟨a, rfl, fun j p hj => ?_⟩⟩⟩, by rw [hxl]; exact h1, fun x hxm => ?_⟩
      · obtain ⟨cs', hK, _, hc⟩ := hx j p hj
        exact ⟨cs', d.K_len hK, hK, hc⟩
      · obtain ⟨i, hi⟩ := List.mem_iff_getElem?.1 hxm
        obtain ⟨_, _, hG, _⟩ := hx i x hi
        exact hG

/-- The fields of a struct, from one on. -/
structure OpensFs {α : Type} (P : Program) (Bd : (H : Type) → TypeId → DataW H → Prop) (fs : List Field) (off : Nat) (d : Kd α) (G : α → Prop) : Prop where
  go : ∀ (H : Type) (enc : TypeId × Value → H) (w : World) (base : Nat) (spare : Nat → Bool) (held : Bool) (n : Nat) (cs : List Value) (xs : List (DataW H × List MemPlace)),
    xs.length = fs.length → (∀ (i : Nat) (f : Field), fs[i]? = some f → DataW.trod enc P w base spare held n f.type ((cs.drop f.offset).take (P.cellsOf f.type)) = xs[i]?) → cs.length = off + d.sz →
    (∀ (i : Nat) (f : Field) (p : DataW H × List MemPlace), fs[i]? = some f → xs[i]? = some p → Bd H f.type p.1) → ∃ v, d.K w v (cs.drop off) ∧ G v
theorem OpensFs.one {α : Type} {d : Kd α} {G : α → Prop} {f : Field} {off : Nat} (ho : f.offset = off) (hs : P.cellsOf f.type = d.sz) (O : Opens P Bd f.type d G) : OpensFs P Bd [f] off d G where
  go H enc w base spare held n cs xs hl ht hc hb := by
    obtain ⟨x, rfl⟩ : ∃ x, xs = [x] := List.length_eq_one_iff.1 hl
    have h1 := ht 0 f rfl
    have h2 := hb 0 f x rfl rfl
    rw [ho, hs, List.take_of_length_le (by rw [List.length_drop]; omega)] at h1
    exact O.go H enc w base spare held n _ x (by simpa using h1) h2
theorem OpensFs.cons {α β : Type} {a : Kd α} {b : Kd β} {G : α → Prop} {G' : β → Prop} {f : Field} {fs : List Field} {off : Nat} (ho : f.offset = off) (hs : P.cellsOf f.type = a.sz) (O : Opens P Bd f.type a G)
    (O' : OpensFs P Bd fs (off + a.sz) b G') : OpensFs P Bd (f :: fs) off (Kd.pair a b) (fun v => G v.1 ∧ G' v.2) where
  go H enc w base spare held n cs xs hl ht hc hb := by
    obtain ⟨x, xs, rfl⟩ : ∃ x r, xs = x :: r := by
      cases xs with
      | nil => simp at hl
      | cons x r => exact ⟨x, r, rfl⟩
    have h1 := ht 0 f rfl
    have h2 := hb 0 f x rfl rfl
    rw [ho, hs] at h1
    have hsz : (Kd.pair a b).sz = a.sz + b.sz := rfl
    obtain ⟨v, hv, hg⟩ := O.go H enc w base spare held n _ x (by simpa using h1) h2
    obtain ⟨u, hu, hg'⟩ := O'.go H enc w base spare held n cs xs (by simpa using hl) (fun i f' hf => by simpa using ht (i + 1) f' (by simpa using hf)) (by rw [hc, hsz]; omega) (fun i f' p hf hp => hb (i + 1) f' p (by simpa using hf) (by simpa using hp))
    refine ⟨(v, u), ⟨_, _, ?_, hv, hu⟩, hg, hg'⟩
    rw [← List.drop_drop, List.take_append_drop]
theorem Opens.struct (Z : Sizes P Bd S T) {α : Type} {d : Kd α} {G : α → Prop} {t : TypeId} {fs : Array Field} (ht : P.underlying t = some (.struct fs)) (hs : P.cellsOf t = d.sz) (O : OpensFs P Bd fs.toList 0 d G) : Opens P Bd t d G where
  go H enc w base spare held fuel cs x h hb := by
    obtain ⟨xs, n, _, rfl, hlen, hxl, hf⟩ := DataW.trod_struct ht h
    have h1 := O.go H enc w base spare held n cs xs (by simpa using hxl) (fun i f hi => hf i f (by simpa using hi)) (by rw [hlen, hs]; omega) (fun i f p hi hp => Z.struct H t fs _ ht hb i f p.1 (by simpa using hi) (by rw [List.getElem?_map, hp]; rfl))
    simpa using h1

end

/-- By the form's own reach. -/
def BdReach (P : Program) (H : Type) (t : TypeId) (d : DataW H) : Prop := ∀ n ∈ d.weights P t, n ≤ reachBytes
theorem weightsAll_mem {H : Type} {P : Program} {e : TypeId} {l : List (DataW H)} {d : DataW H} (h : d ∈ l) : ∀ n ∈ d.weights P e, n ∈ DataW.weightsAll P e l := by
  induction l with
  | nil => cases h
  | cons y r ih =>
    intro n hn
    rw [DataW.weightsAll]
    rcases List.mem_cons.1 h with rfl | h
    · exact List.mem_append_left _ hn
    · exact List.mem_append_right _ (ih h n hn)
theorem weightsEach_mem {H : Type} {P : Program} : ∀ {ts : List TypeId} {l : List (DataW H)} {i : Nat} {t : TypeId} {d : DataW H}, ts[i]? = some t → l[i]? = some d → ∀ n ∈ d.weights P t, n ∈ DataW.weightsEach P ts l
  | [], _, _, _, _, h, _, _, _ => by simp at h
  | _ :: _, [], _, _, _, _, h, _, _ => by simp at h
  | t0 :: ts, d0 :: l, 0, t, d, h, h', n, hn => by
    simp at h h'
    subst h
    subst h'
    rw [DataW.weightsEach]
    exact List.mem_append_left _ hn
  | t0 :: ts, d0 :: l, i + 1, t, d, h, h', n, hn => by
    rw [DataW.weightsEach]
    exact List.mem_append_right _ (weightsEach_mem (i := i) (by simpa using h) (by simpa using h') n hn)
theorem sizesReach (P : Program) : Sizes P (BdReach P) (fun e n => n * P.bytesOf e ≤ reachBytes) (fun n => n ≤ reachBytes) where
  slice H t e es sp ht h := by
    unfold BdReach at h
    rw [DataW.weights, ht] at h
    refine ⟨?_, fun d hd n hn => h n (List.mem_cons_of_mem _ (List.mem_append_left _ (weightsAll_mem hd n hn)))⟩
    have h1 := h _ List.mem_cons_self
    exact Nat.le_trans (Nat.mul_le_mul_right _ (Nat.le_add_right _ _)) h1
  zero e := by simp
  string H t bs h := h _ (by simp [DataW.weights])
  struct H t fs ps ht h i f p hf hp := by
    unfold BdReach at h
    rw [DataW.weights, ht] at h
    intro n hn
    exact h n (weightsEach_mem (i := i) (by rw [List.getElem?_map]; simp [hf]) hp n hn)

theorem reach_arg {H : Type} {P : Program} {ts : List TypeId} {l : List (DataW H)} (hk : (DataW.weightsEach P ts l).all (· ≤ reachBytes) = true) {i : Nat} {t : TypeId} {d : DataW H} (ht : ts[i]? = some t) (hd : l[i]? = some d) : BdReach P H t d := by
  intro n hn
  have h := List.all_eq_true.1 hk n (weightsEach_mem ht hd n hn)
  exact of_decide_eq_true h
end Go.Proofs.YtiebeiloooblpaaO
end
