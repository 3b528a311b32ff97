/- Part 7 of the proof of EntriesTell: the texts that it needs, put together by a program of this session. -/
import Derived.ChangeArms
import Derived.Deep.Slices
import Derived.Test.YtiebeiloooblpaaRows
import Derived.Test.YtiebeiloooblpaaMEntriesTell6
section
namespace Go.Proofs.Ytiebeiloooblpaa.Pure
open Go.RowKit Go.Proofs.Ytiebeiloooblpaa.E Go.Proofs.YtiebeiloooblpaaW.PrintWords Go.Proofs.YtiebeiloooblpaaW.PrintLast Go.Proofs.YtiebeiloooblpaaW.PrintMore Go.Proofs.YtiebeiloooblpaaEV
-- the plain law of layer 8's logs
def isEn (x : S33) : Bool := entries_isEntry.p x.f0 x.f1 x.f2
def isMk (i t : Int) : Bool := (decide (0 ≤ i) && decide (i ≤ 1000000)) && ((decide (0 ≤ t) && decide (t ≤ 1000000)) && ((i == 0) == (t == 0)))
def rows : List S33 → Int → Bool
  | [], _ => true
  | x :: l, f => isEn x && (decide (f ≤ x.f0) && rows l x.f0)
def chk (b0 b1 : Int) (l : List S33) (c : Int) : Bool := isMk b0 b1 && (decide (l.length ≤ 400) && (rows l b1 && (decide (b0 + l.length ≤ 1000000) && (decide (b0 ≤ c) && decide (c ≤ b0 + l.length)))))

theorem entries_within_eq (a b c : Int) : entries_within.f a b c = some (decide (b ≤ a) && decide (a ≤ c)) := by
  unfold entries_within.f; by_cases h : b ≤ a <;> simp [h]
theorem ref08_within_eq (a b c : Int) : rialtoref08_within.f a b c = some (decide (b ≤ a) && decide (a ≤ c)) := by
  unfold rialtoref08_within.f; by_cases h : b ≤ a <;> simp [h]
theorem ref07_within_eq (a b c : Int) : rialtoref07_within.f a b c = some (decide (b ≤ a) && decide (a ≤ c)) := by
  unfold rialtoref07_within.f; by_cases h : b ≤ a <;> simp [h]
theorem entries_isMark_eq (i t : Int) : entries_isMark.f i t = some (isMk i t) := by
  unfold entries_isMark.f isMk
  simp only [entries_within_eq, Option.bind_some]
  by_cases h : (decide (0 ≤ i) && decide (i ≤ 1000000)) = true
  · rw [if_pos h, h]
    by_cases g : (decide (0 ≤ t) && decide (t ≤ 1000000)) = true
    · rw [if_pos g, g]; simp
    · rw [if_neg g]; simp [Bool.eq_false_iff.mpr g]
  · rw [if_neg h]; simp [Bool.eq_false_iff.mpr h]
theorem ref07_Mark_eq (i t : Int) : rialtoref07_Mark.f i t = some (isMk i t) := by
  unfold rialtoref07_Mark.f isMk
  simp only [ref07_within_eq, Option.bind_some]
  by_cases h : (decide (0 ≤ i) && decide (i ≤ 1000000)) = true
  · rw [if_pos h, h]
    by_cases g : (decide (0 ≤ t) && decide (t ≤ 1000000)) = true
    · rw [if_pos g, g]; simp
    · rw [if_neg g]; simp [Bool.eq_false_iff.mpr g]
  · rw [if_neg h]; simp [Bool.eq_false_iff.mpr h]
theorem ref08_Entry_eq (a b : Int) (s : ByteArray) : rialtoref08_Entry.f a b s = some (entries_isEntry.p a b s) := by
  unfold rialtoref08_Entry.f entries_isEntry.p
  simp only [ref08_within_eq, Option.bind_some]
  by_cases h : (decide (1 ≤ a) && decide (a ≤ 1000000)) = true
  · rw [if_pos h, h]
    by_cases hb : b = 1
    · subst hb
      by_cases hs : s.toList = ([] : List UInt8)
      · simp [hs]
      · simp [hs]
    · by_cases hb2 : b = 2
      · subst hb2; simp
      · simp [hb, hb2]
  · rw [if_neg h]; simp [Bool.eq_false_iff.mpr h]
theorem rd33 (l : List S33) (n : Nat) : rd_T33 l (n : Int) = l.getD n z33 := by simp [rd_T33]

theorem entries_rising_l (l : List S33) (hl : l.length < 4398046511104) (m n : Nat) (hn : n + m = l.length) (a : Int) :
    Ev (fun k => entries_rising.l0 k a l (l.length : Int) (n : Int)) (rows (l.drop n) a) := by
  induction m generalizing n a with
  | zero =>
    refine Ev.succ ?_
    simp only [entries_rising.l0]
    refine Ev.neg (by omega) ?_
    rw [List.drop_eq_nil_of_le (by omega)]
    exact Ev.now _
  | succ m ih =>
    refine Ev.succ ?_
    simp only [entries_rising.l0]
    refine Ev.pos (by omega) ?_
    refine Ev.pos (by omega) ?_
    refine Ev.pos (by omega) ?_
    rw [rd33, drop_one l z33 n (by omega)]
    unfold entries_isEntry.f
    simp only [Option.bind_some, rows, isEn]
    by_cases h : entries_isEntry.p (l.getD n z33).f0 (l.getD n z33).f1 (l.getD n z33).f2 = true
    · simp only [h, if_true, Bool.true_and]
      by_cases g : (l.getD n z33).f0 < a
      · simp only [g, if_true]
        rw [decide_eq_false (show ¬ a ≤ (l.getD n z33).f0 by omega), Bool.false_and]
        exact Ev.now _
      · simp only [g, if_false]
        rw [w64 _ (by omega) (by omega)]
        have := ih (n + 1) (by omega) (l.getD n z33).f0
        rw [decide_eq_true (show a ≤ (l.getD n z33).f0 by omega), Bool.true_and]
        exact this
    · simp only [Bool.eq_false_iff.mpr h, Bool.false_eq_true, if_false, Bool.false_and]
      exact Ev.now _
theorem ref08_Rows_l (l : List S33) (hl : l.length < 4398046511104) (m n : Nat) (hn : n + m = l.length) (a : Int) :
    Ev (fun k => rialtoref08_Rows.l0 k l a (n : Int)) (rows (l.drop n) a) := by
  induction m generalizing n a with
  | zero =>
    refine Ev.succ ?_
    simp only [rialtoref08_Rows.l0]
    refine Ev.neg (by omega) ?_
    rw [List.drop_eq_nil_of_le (by omega)]
    exact Ev.now _
  | succ m ih =>
    refine Ev.succ ?_
    simp only [rialtoref08_Rows.l0]
    refine Ev.pos (by omega) ?_
    refine Ev.pos (by omega) ?_
    rw [rd33, drop_one l z33 n (by omega)]
    simp only [ref08_Entry_eq, Option.bind_some, rows, isEn]
    by_cases h : entries_isEntry.p (l.getD n z33).f0 (l.getD n z33).f1 (l.getD n z33).f2 = true
    · simp only [h, if_true, Bool.true_and]
      by_cases g : (l.getD n z33).f0 < a
      · simp only [g, if_true]
        rw [decide_eq_false (show ¬ a ≤ (l.getD n z33).f0 by omega), Bool.false_and]
        exact Ev.now _
      · simp only [g, if_false]
        rw [w64 _ (by omega) (by omega)]
        have := ih (n + 1) (by omega) (l.getD n z33).f0
        rw [decide_eq_true (show a ≤ (l.getD n z33).f0 by omega), Bool.true_and]
        exact this
    · simp only [Bool.eq_false_iff.mpr h, Bool.false_eq_true, if_false, Bool.false_and]
      exact Ev.now _
theorem entries_rising_ev (l : List S33) (hl : l.length < 4398046511104) (a : Int) : Ev (fun k => entries_rising.f k l a) (rows l a) := by
  have := entries_rising_l l hl l.length 0 (by omega) a
  simpa [entries_rising.f] using this
theorem ref08_Rows_ev (l : List S33) (hl : l.length < 4398046511104) (a : Int) : Ev (fun k => rialtoref08_Rows.f k l a) (rows l a) := by
  have := ref08_Rows_l l hl l.length 0 (by omega) a
  simpa [rialtoref08_Rows.f] using this
theorem isMk_of {i t : Int} (h : isMk i t = true) : 0 ≤ i ∧ i ≤ 1000000 ∧ 0 ≤ t ∧ t ≤ 1000000 ∧ (i = 0 ↔ t = 0) := by
  simp only [isMk, Bool.and_eq_true, decide_eq_true_eq, beq_iff_eq] at h
  obtain ⟨⟨h1, h2⟩, ⟨h3, h4⟩, h5⟩ := h
  refine ⟨h1, h2, h3, h4, ?_⟩
  by_cases hi : i = 0
  · by_cases ht : t = 0
    · simp [hi, ht]
    · simp [hi, ht] at h5
  · by_cases ht : t = 0
    · simp [hi, ht] at h5
    · simp [hi, ht]
theorem chk_of {b0 b1 : Int} {l : List S33} {c : Int} (h : chk b0 b1 l c = true) : (0 ≤ b0 ∧ b0 ≤ 1000000 ∧ 0 ≤ b1 ∧ b1 ≤ 1000000 ∧ (b0 = 0 ↔ b1 = 0)) ∧ l.length ≤ 400 ∧ rows l b1 = true ∧ b0 + l.length ≤ 1000000 ∧ b0 ≤ c ∧ c ≤ b0 + l.length := by
  simp only [chk, Bool.and_eq_true, decide_eq_true_eq] at h
  obtain ⟨h1, h2, h3, h4, h5, h6⟩ := h
  exact ⟨isMk_of h1, h2, h3, h4, h5, h6⟩
theorem entries_Check_ev (b0 b1 : Int) (l : List S33) (c : Int) (hl : l.length < 4398046511104) :
    Ev (fun k => entries_Check.f k b0 b1 l c) (if chk b0 b1 l c = true then 0 else 80) := by
  unfold entries_Check.f chk
  simp only [entries_isMark_eq, Option.bind_some]
  by_cases h1 : isMk b0 b1 = true
  · have hm := isMk_of h1
    simp only [h1, if_true, Bool.true_and]
    by_cases h2 : (l.length : Int) > 400
    · simp only [h2, if_true]
      rw [decide_eq_false (show ¬ l.length ≤ 400 by omega)]
      simp only [Bool.false_and, Bool.false_eq_true, if_false]
      exact Ev.now _
    · simp only [h2, if_false]
      rw [decide_eq_true (show l.length ≤ 400 by omega)]
      simp only [Bool.true_and]
      refine Ev.bind (entries_rising_ev l hl b1) ?_
      by_cases h3 : rows l b1 = true
      · simp only [h3, if_true, Bool.true_and, entries_end.f, Option.bind_some, entries_within_eq]
        rw [w64 _ (by omega) (by omega)]
        by_cases h4 : b0 + (l.length : Int) ≤ 1000000
        · refine Ev.neg (by omega) ?_
          simp only [h4, decide_true, Bool.true_and]
          refine Ev.ite (fun h5 => ?_) (fun h5 => ?_)
          · rw [h5]; exact Ev.now _
          · rw [Bool.eq_false_iff.mpr h5]; exact Ev.now _
        · refine Ev.pos (by omega) ?_
          simp only [h4, decide_false, Bool.false_and, Bool.false_eq_true, if_false]
          exact Ev.now _
      · simp only [Bool.eq_false_iff.mpr h3, Bool.false_and, Bool.false_eq_true, if_false]
        exact Ev.now _
  · simp only [Bool.eq_false_iff.mpr h1, Bool.false_and, Bool.false_eq_true, if_false]
    exact Ev.now _
theorem ref08_Check_ev (b0 b1 : Int) (l : List S33) (c : Int) (hl : l.length < 4398046511104) :
    Ev (fun k => rialtoref08_Check.f k b0 b1 l c) (if chk b0 b1 l c = true then 0 else 80) := by
  unfold rialtoref08_Check.f chk
  simp only [ref07_Mark_eq, Option.bind_some]
  by_cases h1 : isMk b0 b1 = true
  · have hm := isMk_of h1
    simp only [h1, if_true, Bool.true_and]
    by_cases h2 : (l.length : Int) > 400
    · simp only [h2, if_true]
      rw [decide_eq_false (show ¬ l.length ≤ 400 by omega)]
      simp only [Bool.false_and, Bool.false_eq_true, if_false]
      exact Ev.now _
    · simp only [h2, if_false]
      rw [decide_eq_true (show l.length ≤ 400 by omega)]
      simp only [Bool.true_and]
      refine Ev.bind (ref08_Rows_ev l hl b1) ?_
      by_cases h3 : rows l b1 = true
      · simp only [h3, if_true, Bool.true_and, rialtoref08_end.f, Option.bind_some, ref08_within_eq]
        rw [w64 _ (by omega) (by omega)]
        by_cases h4 : b0 + (l.length : Int) ≤ 1000000
        · refine Ev.neg (by omega) ?_
          simp only [h4, decide_true, Bool.true_and]
          refine Ev.ite (fun h5 => ?_) (fun h5 => ?_)
          · rw [h5]; exact Ev.now _
          · rw [Bool.eq_false_iff.mpr h5]; exact Ev.now _
        · refine Ev.pos (by omega) ?_
          simp only [h4, decide_false, Bool.false_and, Bool.false_eq_true, if_false]
          exact Ev.now _
      · simp only [Bool.eq_false_iff.mpr h3, Bool.false_and, Bool.false_eq_true, if_false]
        exact Ev.now _
  · simp only [Bool.eq_false_iff.mpr h1, Bool.false_and, Bool.false_eq_true, if_false]
    exact Ev.now _
/-- the term at an index of a log -/
def termAt (b0 b1 : Int) (l : List S33) (c i : Int) : Int × Bool :=
  if chk b0 b1 l c = true ∧ b0 ≤ i ∧ i ≤ b0 + l.length then (if i = b0 then (b1, true) else ((l.getD (i - b0 - 1).toNat z33).f0, true)) else (0, false)
theorem entries_TermAt_ev (b0 b1 : Int) (l : List S33) (c i : Int) (hl : l.length < 4398046511104) :
    Ev (fun k => entries_TermAt.f k b0 b1 l c i) (termAt b0 b1 l c i) := by
  unfold entries_TermAt.f termAt
  refine Ev.bind (entries_Check_ev b0 b1 l c hl) ?_
  by_cases h1 : chk b0 b1 l c = true
  · obtain ⟨hm, hn, hr, he, hc⟩ := chk_of h1
    simp only [h1, if_true, true_and, entries_end.f, entries_within_eq, Option.bind_some]
    rw [w64 _ (by omega) (by omega)]
    refine Ev.succ ?_
    simp only [entries_TermAt.j0]
    by_cases h2 : b0 ≤ i ∧ i ≤ b0 + l.length
    · rw [if_pos h2]
      obtain ⟨h2, h3⟩ := h2
      refine Ev.neg (by simp; omega) ?_
      by_cases h4 : i = b0
      · refine Ev.eqv ?_ (if_pos h4).symm
        exact Ev.pos h4 (Ev.now _)
      · refine Ev.eqv ?_ (if_neg h4).symm
        have e : wrap64 (wrap64 (i - b0) - 1) = i - b0 - 1 := by rw [w64 (i - b0) (by omega) (by omega), w64 _ (by omega) (by omega)]
        rw [e]
        exact Ev.neg h4 (Ev.pos (by omega) (Ev.pos (by omega) (Ev.now _)))
    · rw [if_neg h2]
      exact Ev.pos (by simp; omega) (Ev.now _)
  · simp only [Bool.eq_false_iff.mpr h1, Bool.false_eq_true, if_false, false_and]
    refine Ev.neg (by omega) ?_
    refine Ev.succ ?_
    simp only [entries_TermAt.j0, if_true]
    exact Ev.now _
theorem ref08_TermAt_ev (b0 b1 : Int) (l : List S33) (c i : Int) (hl : l.length < 4398046511104) :
    Ev (fun k => rialtoref08_TermAt.f k b0 b1 l c i) (termAt b0 b1 l c i) := by
  unfold rialtoref08_TermAt.f termAt
  refine Ev.bind (ref08_Check_ev b0 b1 l c hl) ?_
  by_cases h1 : chk b0 b1 l c = true
  · obtain ⟨hm, hn, hr, he, hc⟩ := chk_of h1
    simp only [h1, if_true, true_and, rialtoref08_end.f, Option.bind_some]
    rw [w64 (b0 + (l.length : Int)) (by omega) (by omega)]
    by_cases h2 : b0 ≤ i
    · refine Ev.neg (by omega) ?_
      refine Ev.succ ?_
      simp only [rialtoref08_TermAt.j0]
      by_cases h3 : i ≤ b0 + l.length
      · rw [if_pos (And.intro h2 h3)]
        refine Ev.neg (by simp; omega) ?_
        by_cases h4 : i = b0
        · refine Ev.eqv ?_ (if_pos h4).symm
          exact Ev.pos h4 (Ev.now _)
        · refine Ev.eqv ?_ (if_neg h4).symm
          have e : wrap64 (wrap64 (i - b0) - 1) = i - b0 - 1 := by rw [w64 (i - b0) (by omega) (by omega), w64 _ (by omega) (by omega)]
          rw [e]
          exact Ev.neg h4 (Ev.pos (by omega) (Ev.pos (by omega) (Ev.now _)))
      · rw [if_neg (show ¬ (b0 ≤ i ∧ i ≤ b0 + l.length) by omega)]
        exact Ev.pos (by simp; omega) (Ev.now _)
    · rw [if_neg (by omega)]
      refine Ev.pos (by omega) ?_
      refine Ev.succ ?_
      simp only [rialtoref08_TermAt.j0, if_true]
      exact Ev.now _
  · simp only [Bool.eq_false_iff.mpr h1, Bool.false_eq_true, if_false, false_and]
    refine Ev.neg (by omega) ?_
    refine Ev.succ ?_
    simp only [rialtoref08_TermAt.j0, if_true]
    exact Ev.now _
theorem ref08_SameEntries_l (l : List S33) (hl : l.length < 4398046511104) (m n : Nat) (hn : n + m = l.length) :
    Ev (fun k => rialtoref08_SameEntries.l0 k l l (n : Int)) true := by
  induction m generalizing n with
  | zero =>
    refine Ev.succ ?_
    simp only [rialtoref08_SameEntries.l0]
    refine Ev.neg (by omega) ?_
    exact Ev.now _
  | succ m ih =>
    refine Ev.succ ?_
    simp only [rialtoref08_SameEntries.l0]
    refine Ev.pos (by omega) ?_
    refine Ev.pos (by omega) ?_
    refine Ev.pos (by omega) ?_
    refine Ev.neg (by simp) ?_
    rw [w64 _ (by omega) (by omega)]
    exact ih (n + 1) (by omega)
theorem ref08_SameEntries_ev (l : List S33) (hl : l.length < 4398046511104) : Ev (fun k => rialtoref08_SameEntries.f k l l) true := by
  have := ref08_SameEntries_l l hl l.length 0 (by omega)
  simpa [rialtoref08_SameEntries.f] using this
theorem ref08_Same_ev (b0 b1 : Int) (l : List S33) (c : Int) (hl : l.length < 4398046511104) : Ev (fun k => rialtoref08_Same.f k b0 b1 l c b0 b1 l c) true := by
  unfold rialtoref08_Same.f
  refine Ev.pos (by simp) ?_
  refine Ev.pos rfl ?_
  exact Ev.bind (ref08_SameEntries_ev l hl) (Ev.now _)
theorem ref08_Copy_eq (b0 b1 : Int) (l : List S33) (c : Int) (hl : l.length < 4398046511104) : rialtoref08_Copy.f b0 b1 l c = some (b0, b1, l, c) := by
  unfold rialtoref08_Copy.f
  rw [if_pos (by simp; omega)]; simp
theorem slicesClone_Entry_eq (l : List S33) (hl : l.length < 4398046511104) : slicesClone_Entry.f l = some l := by
  unfold slicesClone_Entry.f; rw [if_pos (by omega)]
end Go.Proofs.Ytiebeiloooblpaa.Pure
end
section
namespace Go.Proofs.Ytiebeiloooblpaa.Pure
open Go.RowKit Go.Proofs.Ytiebeiloooblpaa.E Go.Proofs.YtiebeiloooblpaaW.PrintWords Go.Proofs.YtiebeiloooblpaaW.PrintLast Go.Proofs.YtiebeiloooblpaaW.PrintMore Go.Proofs.YtiebeiloooblpaaEV
-- the plain law of layer 8: the last mark, entries from an index on
def lastV (b0 b1 : Int) (l : List S33) (c : Int) : Int × Int := if chk b0 b1 l c = true then (b0 + l.length, (termAt b0 b1 l c (b0 + l.length)).1) else (0, 0)
theorem entries_Last_ev (b0 b1 : Int) (l : List S33) (c : Int) (hl : l.length < 4398046511104) : Ev (fun k => entries_Last.f k b0 b1 l c) (lastV b0 b1 l c) := by
  unfold entries_Last.f lastV
  refine Ev.bind (entries_Check_ev b0 b1 l c hl) ?_
  by_cases h1 : chk b0 b1 l c = true
  · obtain ⟨hm, hn, hr, he, hc⟩ := chk_of h1
    simp only [h1, if_true, entries_end.f, Option.bind_some]
    rw [w64 _ (by omega) (by omega)]
    exact Ev.bind (entries_TermAt_ev b0 b1 l c _ hl) (Ev.now _)
  · simp only [Bool.eq_false_iff.mpr h1, Bool.false_eq_true, if_false]
    exact Ev.neg (by omega) (Ev.now _)
theorem ref08_Last_ev (b0 b1 : Int) (l : List S33) (c : Int) (hl : l.length < 4398046511104) : Ev (fun k => rialtoref08_Last.f k b0 b1 l c) (lastV b0 b1 l c) := by
  unfold rialtoref08_Last.f lastV
  refine Ev.bind (ref08_Check_ev b0 b1 l c hl) ?_
  by_cases h1 : chk b0 b1 l c = true
  · obtain ⟨hm, hn, hr, he, hc⟩ := chk_of h1
    simp only [h1, if_true, rialtoref08_end.f, Option.bind_some]
    rw [w64 (b0 + (l.length : Int)) (by omega) (by omega)]
    have ht : termAt b0 b1 l c (b0 + (l.length : Int)) = if b0 + (l.length : Int) = b0 then (b1, true) else ((l.getD (b0 + (l.length : Int) - b0 - 1).toNat z33).f0, true) := by
      unfold termAt
      rw [if_pos ⟨h1, by omega, by omega⟩]
    rw [ht]
    by_cases h0 : (l.length : Int) = 0
    · refine Ev.eqv (Ev.pos h0 (Ev.now _)) ?_
      rw [if_pos (by omega)]; simp [h0]
    · refine Ev.neg h0 ?_
      rw [w64 ((l.length : Int) - 1) (by omega) (by omega)]
      refine Ev.eqv (Ev.pos (by omega) (Ev.pos (by omega) (Ev.now _))) ?_
      rw [if_neg (by omega)]
      have e : (b0 + (l.length : Int) - b0 - 1).toNat = ((l.length : Int) - 1).toNat := by omega
      simp only [rd_T33, e]
  · simp only [Bool.eq_false_iff.mpr h1, Bool.false_eq_true, if_false]
    exact Ev.neg (by omega) (Ev.now _)
def fromV (b0 b1 : Int) (l : List S33) (c i most : Int) : List S33 := if chk b0 b1 l c = true ∧ b0 < i ∧ i ≤ b0 + l.length ∧ 1 ≤ most then (l.drop (i - b0 - 1).toNat).take most.toNat else []
theorem take_mn (y : List S33) (m : Int) (h : 1 ≤ m) : y.take (mn m (y.length : Int)).toNat = y.take m.toNat := by
  unfold mn
  by_cases h1 : (y.length : Int) < m
  · rw [if_pos h1, List.take_of_length_le (by omega), List.take_of_length_le (by omega)]
  · rw [if_neg h1]
theorem entries_From_ev (b0 b1 : Int) (l : List S33) (c i most : Int) (hl : l.length < 4398046511104) : Ev (fun k => entries_From.f k b0 b1 l c i most) (fromV b0 b1 l c i most) := by
  unfold entries_From.f fromV
  refine Ev.bind (entries_Check_ev b0 b1 l c hl) ?_
  by_cases h1 : chk b0 b1 l c = true
  · obtain ⟨hm, hn, hr, he, hc⟩ := chk_of h1
    simp only [h1, if_true, true_and, entries_end.f, Option.bind_some]
    rw [w64 _ (by omega) (by omega)]
    by_cases h2 : i ≤ b0
    · refine Ev.eqv (Ev.pos h2 (Ev.now _)) ?_
      rw [if_neg (by omega)]
    · refine Ev.neg h2 ?_
      by_cases h3 : i > b0 + l.length
      · refine Ev.eqv (Ev.pos h3 (Ev.now _)) ?_
        rw [if_neg (by omega)]
      · refine Ev.neg h3 ?_
        by_cases h4 : most < 1
        · refine Ev.eqv (Ev.pos h4 (Ev.now _)) ?_
          rw [if_neg (by omega)]
        · refine Ev.neg h4 ?_
          rw [w64 (i - b0) (by omega) (by omega), w64 (i - b0 - 1) (by omega) (by omega)]
          have hmn : 0 ≤ mn most ((l.drop (i - b0 - 1).toNat).length : Int) ∧ mn most ((l.drop (i - b0 - 1).toNat).length : Int) ≤ ((l.drop (i - b0 - 1).toNat).length : Int) := by unfold mn; split <;> omega
          refine Ev.eqv ?_ (if_pos (show b0 < i ∧ i ≤ b0 + (l.length : Int) ∧ 1 ≤ most by omega)).symm
          refine Ev.pos (by omega) (Ev.pos (by omega) (Ev.bind (Ev.now _) (Ev.pos hmn.1 (Ev.pos hmn.2 ?_))))
          rw [take_mn _ _ (by omega), slicesClone_Entry_eq _ (by simp; omega)]
          exact Ev.bind (Ev.now _) (Ev.now _)
  · simp only [Bool.eq_false_iff.mpr h1, Bool.false_eq_true, if_false, false_and]
    exact Ev.neg (by omega) (Ev.now _)
theorem ref08_From_l (b0 b1 : Int) (l : List S33) (c most : Int) (h1 : chk b0 b1 l c = true) (d : Nat) : ∀ (i : Int) (acc : List S33), b0 < i → (b0 + l.length + 1 - i) = d → acc.length ≤ 400 - d → acc.length ≤ most →
    Ev (fun k => rialtoref08_From.l0 k most acc i b0 b1 l c) (acc ++ (l.drop (i - b0 - 1).toNat).take (most - acc.length).toNat) := by
  obtain ⟨hm, hn, hr, he, hc⟩ := chk_of h1
  induction d with
  | zero =>
    intro i acc h2 h3 h4 h5
    refine Ev.succ ?_
    simp only [rialtoref08_From.l0, rialtoref08_end.f, Option.bind_some]
    rw [w64 (b0 + (l.length : Int)) (by omega) (by omega)]
    refine Ev.eqv (Ev.neg (by omega) (Ev.now _)) ?_
    rw [List.drop_eq_nil_of_le (by omega)]; simp
  | succ d ih =>
    intro i acc h2 h3 h4 h5
    refine Ev.succ ?_
    simp only [rialtoref08_From.l0, rialtoref08_end.f, Option.bind_some]
    rw [w64 (b0 + (l.length : Int)) (by omega) (by omega)]
    refine Ev.pos (by omega) ?_
    by_cases h6 : (acc.length : Int) < most
    · rw [w64 (i - b0) (by omega) (by omega), w64 (i - b0 - 1) (by omega) (by omega), w64 (i + 1) (by omega) (by omega)]
      refine Ev.pos h6 (Ev.pos (by omega) (Ev.pos (by omega) (Ev.pos (by omega) ?_)))
      refine Ev.eqv (ih (i + 1) _ (by omega) (by omega) (by simp; omega) (by simp; omega)) ?_
      have e1 : (i + 1 - b0 - 1).toNat = (i - b0 - 1).toNat + 1 := by omega
      have e2 : (most - (acc.length : Int)).toNat = (most - ((acc ++ [rd_T33 l (i - b0 - 1)]).length : Int)).toNat + 1 := by simp; omega
      have e3 : (⟨(rd_T33 l (i - b0 - 1)).f0, (rd_T33 l (i - b0 - 1)).f1, (rd_T33 l (i - b0 - 1)).f2⟩ : S33) = rd_T33 l (i - b0 - 1) := rfl
      rw [e3, e1, e2, drop_one l z33 (i - b0 - 1).toNat (by omega), List.take_succ_cons, List.append_assoc]
      rfl
    · refine Ev.eqv (Ev.neg h6 (Ev.now _)) ?_
      rw [show (most - (acc.length : Int)).toNat = 0 by omega]; simp
theorem ref08_From_ev (b0 b1 : Int) (l : List S33) (c i most : Int) (hl : l.length < 4398046511104) : Ev (fun k => rialtoref08_From.f k b0 b1 l c i most) (fromV b0 b1 l c i most) := by
  unfold rialtoref08_From.f fromV
  refine Ev.bind (ref08_Check_ev b0 b1 l c hl) ?_
  by_cases h1 : chk b0 b1 l c = true
  · obtain ⟨hm, hn, hr, he, hc⟩ := chk_of h1
    simp only [h1, if_true, true_and, rialtoref08_end.f, Option.bind_some]
    rw [w64 _ (by omega) (by omega)]
    by_cases h2 : i ≤ b0
    · refine Ev.eqv (Ev.pos h2 (Ev.succ ?_)) (if_neg (by omega)).symm
      simp only [rialtoref08_From.j0, if_true]; exact Ev.now _
    · refine Ev.neg h2 ?_
      by_cases h3 : i > b0 + l.length
      · refine Ev.eqv (Ev.pos h3 (Ev.succ ?_)) (if_neg (by omega)).symm
        simp only [rialtoref08_From.j0, if_true]; exact Ev.now _
      · refine Ev.neg h3 (Ev.succ ?_)
        by_cases h4 : most < 1
        · refine Ev.eqv ?_ (if_neg (by omega)).symm
          simp only [rialtoref08_From.j0, h4, decide_true, if_true]; exact Ev.now _
        · simp only [rialtoref08_From.j0, h4, decide_false, Bool.false_eq_true, if_false]
          rw [if_pos (by omega)]
          refine Ev.eqv (ref08_From_l b0 b1 l c most h1 (b0 + l.length + 1 - i).toNat i [] (by omega) (by omega) (by simp) (by simp; omega)) ?_
          simp
  · simp only [Bool.eq_false_iff.mpr h1, Bool.false_eq_true, if_false, false_and]
    refine Ev.neg (by omega) (Ev.succ ?_)
    simp only [rialtoref08_From.j0, if_true]; exact Ev.now _
theorem spoil_l (d : Nat) : ∀ (l : List S33) (i : Nat), l.length < 4398046511104 → i + d = l.length → ∃ q, Ev (fun k => rialtolaw08_spoil.l0 k l (i : Int)) q := by
  induction d with
  | zero =>
    intro l i hl hi
    refine ⟨l, Ev.succ ?_⟩
    simp only [rialtolaw08_spoil.l0]
    exact Ev.neg (by omega) (Ev.now _)
  | succ d ih =>
    intro l i hl hi
    obtain ⟨q, hq⟩ := ih (l.set i (⟨(rd_T33 l i).f0, (rd_T33 l i).f1, (⟨#[119, 114, 105, 116, 116, 101, 110]⟩ : ByteArray)⟩ : S33)) (i + 1) (by simpa using hl) (by simp; omega)
    refine ⟨q, Ev.succ ?_⟩
    simp only [rialtolaw08_spoil.l0]
    refine Ev.pos (by omega) (Ev.pos (by omega) ?_)
    rw [w64 _ (by omega) (by omega)]
    exact hq
theorem spoil_ev (l : List S33) (hl : l.length < 4398046511104) : ∃ q, Ev (fun k => rialtolaw08_spoil.f k l) q := spoil_l l.length l 0 hl (by omega)
theorem live8_ev : Ev (fun k => rialtolaw08_live.f k) true := Ev.of (k := 30) (fun k => rialtolaw08_live.mono k) (by kernel_rfl)
theorem fromV_len (b0 b1 : Int) (l : List S33) (c i most : Int) (hl : l.length < 4398046511104) : (fromV b0 b1 l c i most).length < 4398046511104 := by
  unfold fromV; split
  · simp only [List.length_take, List.length_drop]; omega
  · simp

end Go.Proofs.Ytiebeiloooblpaa.Pure
end
section
namespace Go.Proofs.Ytiebeiloooblpaa.Pure
open Go.RowKit Go.Proofs.Ytiebeiloooblpaa.E Go.Proofs.YtiebeiloooblpaaW.PrintWords Go.Proofs.YtiebeiloooblpaaW.PrintLast Go.Proofs.YtiebeiloooblpaaW.PrintMore Go.Proofs.YtiebeiloooblpaaEV
theorem EntriesTell : rialtolaw08_EntriesTell.Pure := by
  intro b0 b1 l c i most hb0 hb1 hl hc hi hmost
  have hn : l.length < 4398046511104 := by have := hl.1; omega
  refine Ev.rounds ?_
  unfold rialtolaw08_EntriesTell.f
  rw [ref08_Copy_eq b0 b1 l c hn]
  refine Ev.bind (Ev.now _) (Ev.bind (entries_TermAt_ev b0 b1 l c i hn) (Ev.bind (ref08_TermAt_ev b0 b1 l c i hn) (Ev.bind (entries_From_ev b0 b1 l c i most hn) (Ev.bind (entries_Check_ev b0 b1 l c hn) (Ev.bind (ref08_Check_ev b0 b1 l c hn) ?_)))))
  refine Ev.pos rfl (Ev.bind (entries_Last_ev b0 b1 l c hn) (Ev.bind (ref08_Last_ev b0 b1 l c hn) ?_))
  refine Ev.neg (by simp) (Ev.pos rfl (Ev.neg (by simp) (Ev.bind (ref08_From_ev b0 b1 l c i most hn) ?_)))
  have hlen := fromV_len b0 b1 l c i most hn
  refine Ev.bind (ref08_SameEntries_ev _ hlen) (Ev.succ ?_)
  simp only [rialtolaw08_EntriesTell.j0]
  obtain ⟨q, hq⟩ := spoil_ev _ hlen
  exact Ev.neg (by simp) (Ev.bind hq (Ev.bind (ref08_Same_ev b0 b1 l c hn) (Ev.pos rfl (Ev.bind live8_ev (Ev.now _)))))

end Go.Proofs.Ytiebeiloooblpaa.Pure
end
section
/- Helper lemmas of this session: an argument that reads as data, opened to plain values, whatever its type's depth; and what its size says. -/
namespace Go.Proofs.YtiebeiloooblpaaO
open Go.RowKit Go.Proofs.YtiebeiloooblpaaW.PrintWords Go.Deep

/-- What a bound on a reading says of its slices' lengths (S) and its strings' (T), at every depth. -/
structure Sizes (P : Program) (Bd : (H : Type) → TypeId → DataW H → Prop) (S : TypeId → Nat → Prop) (T : Nat → Prop) : Prop where
  slice : ∀ (H : Type) (t e : TypeId) (es sp : List (DataW H)), P.underlying t = some (.slice e) → Bd H t (.slice es sp) → S e es.length ∧ ∀ d ∈ es, Bd H e d
  zero : ∀ e, S e 0
  string : ∀ (H : Type) (t : TypeId) (bs : List UInt8), Bd H t (.lit (.string bs)) → T bs.length
  struct : ∀ (H : Type) (t : TypeId) (fs : Array Field) (ps : List (DataW H)), P.underlying t = some (.struct fs) → Bd H t (.agg ps) → ∀ (i : Nat) (f : Field) (p : DataW H), fs[i]? = some f → ps[i]? = some p → Bd H f.type p

/-- Values of type t read as d's; G: what is known of them. -/
structure Opens {α : Type} (P : Program) (Bd : (H : Type) → TypeId → DataW H → Prop) (t : TypeId) (d : Kd α) (G : α → Prop) : Prop where
  go : ∀ (H : Type) (enc : TypeId × Value → H) (w : World) (base : Nat) (spare : Nat → Bool) (held : Bool) (fuel : Nat) (cs : List Value) (x : DataW H × List MemPlace),
    DataW.trod enc P w base spare held fuel t cs = some x → Bd H t x.1 → ∃ v, d.K w v cs ∧ G v

theorem add_add' (a : Addr) (i j : Nat) : (a.add i).add j = a.add (i + j) := by
  unfold Addr.add
  by_cases h1 : i = 0 <;> by_cases h2 : j = 0 <;> simp [h1, h2, Nat.add_assoc]
theorem listOf {α : Type} {Q : Nat → α → Prop} : ∀ n, (∀ i, i < n → ∃ v, Q i v) → ∃ xs : List α, xs.length = n ∧ ∀ i p, xs[i]? = some p → Q i p
  | 0, _ => ⟨[], rfl, fun i p h => by simp at h⟩
  | n + 1, h => by
    obtain ⟨xs, hl, hx⟩ := listOf n (fun i hi => h i (by omega))
    obtain ⟨v, hv⟩ := h n (Nat.lt_succ_self n)
    refine ⟨xs ++ [v], by simp [hl], fun i p hp => ?_⟩
    rcases Nat.lt_or_ge i xs.length with hi | hi
    · rw [List.getElem?_append_left hi] at hp
      exact hx i p hp
    · have hlt := (List.getElem?_eq_some_iff.1 hp).1
      rw [List.length_append, List.length_singleton] at hlt
      obtain rfl : i = n := by omega
      rw [List.getElem?_append_right hi] at hp
      simp [hl] at hp
      subst hp
      exact hv

section
variable {P : Program} {Bd : (H : Type) → TypeId → DataW H → Prop} {S : TypeId → Nat → Prop} {T : Nat → Prop}

theorem Opens.int {t : TypeId} {k : IntKind} (ht : P.underlying t = some (.int k)) : Opens P Bd t (Kd.int k) (fun n => (Lit.int k n).wf = true) where
  go H enc w base spare held fuel cs x h hb := by
    obtain ⟨n, rfl, _, hw⟩ := DataW.trod_int ht h
    exact ⟨n, rfl, hw⟩
theorem Opens.string (Z : Sizes P Bd S T) {t : TypeId} (ht : P.underlying t = some .string) : Opens P Bd t Kd.string (fun s => T s.size) where
  go H enc w base spare held fuel cs x h hb := by
    obtain ⟨s, rfl, rfl, _⟩ := DataW.trod_string ht h
    have h1 := Z.string H t _ hb
    rw [Array.length_toList] at h1
    exact ⟨s, rfl, h1⟩
theorem Opens.iso {α β : Type} {d : Kd α} {G : α → Prop} {t : TypeId} (f : β → α) (g : α → β) (hfg : ∀ y, f (g y) = y) (O : Opens P Bd t d G) : Opens P Bd t (Kd.iso d f) (fun x => G (f x)) where
  go H enc w base spare held fuel cs x h hb := by
    obtain ⟨v, hK, hG⟩ := O.go H enc w base spare held fuel cs x h hb
    exact ⟨g v, by show d.K w (f (g v)) cs; rw [hfg]; exact hK, by show G (f (g v)); rw [hfg]; exact hG⟩
theorem Opens.bool {t : TypeId} (ht : P.underlying t = some .bool) : Opens P Bd t Kd.bool (fun _ => True) where
  go H enc w base spare held fuel cs x h hb := by
    cases fuel with
    | zero => simp [DataW.trod] at h
    | succ n =>
      unfold DataW.trod at h
      rw [ht] at h
      split at h <;> first | exact ⟨_, rfl, trivial⟩ | simp_all
theorem Opens.slice (Z : Sizes P Bd S T) {α : Type} {d : Kd α} {G : α → Prop} {t e : TypeId} {S' : Nat → Prop} (hS : ∀ n, S e n → S' n) (ht : P.underlying t = some (.slice e)) (hs : P.cellsOf e = d.sz) (O : Opens P Bd e d G) :
    Opens P Bd t (Kd.slice e d) (fun xs => S' xs.length ∧ ∀ x ∈ xs, G x) where
  go H enc w base spare held fuel cs x h hb := by
    rcases open_slice ht h with ⟨rfl, rfl⟩ | ⟨a, len, cap, m, n, D, Pl, rfl, _, hl, hm, hmm, rfl, hi⟩
    · exact ⟨[], ⟨none, 0, rfl, Nat.le_refl _, Kd.C_nil d w⟩, hS _ (Z.zero e), fun x h => by cases h⟩
    · have hlm : len ≤ m := by rw [hmm]; split <;> omega
      obtain ⟨h1, h2⟩ := Z.slice H t e _ _ ht hb
      rw [List.length_map, List.length_range] at h1
      replace h1 := hS _ h1
      have hel : ∀ i, i < len → ∃ v cs', d.K w v cs' ∧ G v ∧ (∀ j u, cs'[j]? = some u → w.cell? (a.add (i * d.sz + j)) = some u) := by
        intro i hil
        obtain ⟨cs', hc, htr⟩ := hi i (by omega)
        rw [hs] at hc
        obtain ⟨_, hcl, hat⟩ := World.cells?_some hc
        obtain ⟨v, hK, hG⟩ := O.go H enc w base spare held n cs' _ htr (h2 _ (List.mem_map.2 ⟨i, List.mem_range.2 hil, rfl⟩))
        refine ⟨v, cs', hK, hG, fun j u hu => ?_⟩
        have hj : j < d.sz := by rw [← hcl]; exact (List.getElem?_eq_some_iff.1 hu).1
        rw [← add_add', hat j hj, hu]
      obtain ⟨xs, hxl, hx⟩ := listOf len hel
      refine ⟨xs, ⟨some a, cap, by rw [hxl], by rw [hxl]; exact hl, ⟨rfl, by rw [hxl]; simp only [maxLen] at hm; omega, fun hp => ⟨a, rfl, fun j p hj => ?_⟩⟩⟩, by rw [hxl]; exact h1, fun x hxm => ?_⟩
      · obtain ⟨cs', hK, _, hc⟩ := hx j p hj
        exact ⟨cs', d.K_len hK, hK, hc⟩
      · obtain ⟨i, hi⟩ := List.mem_iff_getElem?.1 hxm
        obtain ⟨_, _, hG, _⟩ := hx i x hi
        exact hG

/-- The fields of a struct, from one on. -/
structure OpensFs {α : Type} (P : Program) (Bd : (H : Type) → TypeId → DataW H → Prop) (fs : List Field) (off : Nat) (d : Kd α) (G : α → Prop) : Prop where
  go : ∀ (H : Type) (enc : TypeId × Value → H) (w : World) (base : Nat) (spare : Nat → Bool) (held : Bool) (n : Nat) (cs : List Value) (xs : List (DataW H × List MemPlace)),
    xs.length = fs.length → (∀ (i : Nat) (f : Field), fs[i]? = some f → DataW.trod enc P w base spare held n f.type ((cs.drop f.offset).take (P.cellsOf f.type)) = xs[i]?) → cs.length = off + d.sz →
    (∀ (i : Nat) (f : Field) (p : DataW H × List MemPlace), fs[i]? = some f → xs[i]? = some p → Bd H f.type p.1) → ∃ v, d.K w v (cs.drop off) ∧ G v
theorem OpensFs.one {α : Type} {d : Kd α} {G : α → Prop} {f : Field} {off : Nat} (ho : f.offset = off) (hs : P.cellsOf f.type = d.sz) (O : Opens P Bd f.type d G) : OpensFs P Bd [f] off d G where
  go H enc w base spare held n cs xs hl ht hc hb := by
    obtain ⟨x, rfl⟩ : ∃ x, xs = [x] := List.length_eq_one_iff.1 hl
    have h1 := ht 0 f rfl
    have h2 := hb 0 f x rfl rfl
    rw [ho, hs, List.take_of_length_le (by rw [List.length_drop]; omega)] at h1
    exact O.go H enc w base spare held n _ x (by simpa using h1) h2
theorem OpensFs.cons {α β : Type} {a : Kd α} {b : Kd β} {G : α → Prop} {G' : β → Prop} {f : Field} {fs : List Field} {off : Nat} (ho : f.offset = off) (hs : P.cellsOf f.type = a.sz) (O : Opens P Bd f.type a G)
    (O' : OpensFs P Bd fs (off + a.sz) b G') : OpensFs P Bd (f :: fs) off (Kd.pair a b) (fun v => G v.1 ∧ G' v.2) where
  go H enc w base spare held n cs xs hl ht hc hb := by
    obtain ⟨x, xs, rfl⟩ : ∃ x r, xs = x :: r := by
      cases xs with
      | nil => simp at hl
      | cons x r => exact ⟨x, r, rfl⟩
    have h1 := ht 0 f rfl
    have h2 := hb 0 f x rfl rfl
    rw [ho, hs] at h1
    have hsz : (Kd.pair a b).sz = a.sz + b.sz := rfl
    obtain ⟨v, hv, hg⟩ := O.go H enc w base spare held n _ x (by simpa using h1) h2
    obtain ⟨u, hu, hg'⟩ := O'.go H enc w base spare held n cs xs (by simpa using hl) (fun i f' hf => by simpa using ht (i + 1) f' (by simpa using hf)) (by rw [hc, hsz]; omega) (fun i f' p hf hp => hb (i + 1) f' p (by simpa using hf) (by simpa using hp))
    refine ⟨(v, u), ⟨_, _, ?_, hv, hu⟩, hg, hg'⟩
    rw [← List.drop_drop, List.take_append_drop]
theorem Opens.struct (Z : Sizes P Bd S T) {α : Type} {d : Kd α} {G : α → Prop} {t : TypeId} {fs : Array Field} (ht : P.underlying t = some (.struct fs)) (hs : P.cellsOf t = d.sz) (O : OpensFs P Bd fs.toList 0 d G) : Opens P Bd t d G where
  go H enc w base spare held fuel cs x h hb := by
    obtain ⟨xs, n, _, rfl, hlen, hxl, hf⟩ := DataW.trod_struct ht h
    have h1 := O.go H enc w base spare held n cs xs (by simpa using hxl) (fun i f hi => hf i f (by simpa using hi)) (by rw [hlen, hs]; omega) (fun i f p hi hp => Z.struct H t fs _ ht hb i f p.1 (by simpa using hi) (by rw [List.getElem?_map, hp]; rfl))
    simpa using h1

end

/-- By the form's own reach. -/
def BdReach (P : Program) (H : Type) (t : TypeId) (d : DataW H) : Prop := ∀ n ∈ d.weights P t, n ≤ reachBytes
theorem weightsAll_mem {H : Type} {P : Program} {e : TypeId} {l : List (DataW H)} {d : DataW H} (h : d ∈ l) : ∀ n ∈ d.weights P e, n ∈ DataW.weightsAll P e l := by
  induction l with
  | nil => cases h
  | cons y r ih =>
    intro n hn
    rw [DataW.weightsAll]
    rcases List.mem_cons.1 h with rfl | h
    · exact List.mem_append_left _ hn
    · exact List.mem_append_right _ (ih h n hn)
theorem weightsEach_mem {H : Type} {P : Program} : ∀ {ts : List TypeId} {l : List (DataW H)} {i : Nat} {t : TypeId} {d : DataW H}, ts[i]? = some t → l[i]? = some d → ∀ n ∈ d.weights P t, n ∈ DataW.weightsEach P ts l
  | [], _, _, _, _, h, _, _, _ => by simp at h
  | _ :: _, [], _, _, _, _, h, _, _ => by simp at h
  | t0 :: ts, d0 :: l, 0, t, d, h, h', n, hn => by
    simp at h h'
    subst h
    subst h'
    rw [DataW.weightsEach]
    exact List.mem_append_left _ hn
  | t0 :: ts, d0 :: l, i + 1, t, d, h, h', n, hn => by
    rw [DataW.weightsEach]
    exact List.mem_append_right _ (weightsEach_mem (i := i) (by simpa using h) (by simpa using h') n hn)
theorem sizesReach (P : Program) : Sizes P (BdReach P) (fun e n => n * P.bytesOf e ≤ reachBytes) (fun n => n ≤ reachBytes) where
  slice H t e es sp ht h := by
    unfold BdReach at h
    rw [DataW.weights, ht] at h
    refine ⟨?_, fun d hd n hn => h n (List.mem_cons_of_mem _ (List.mem_append_left _ (weightsAll_mem hd n hn)))⟩
    have h1 := h _ List.mem_cons_self
    exact Nat.le_trans (Nat.mul_le_mul_right _ (Nat.le_add_right _ _)) h1
  zero e := by simp
  string H t bs h := h _ (by simp [DataW.weights])
  struct H t fs ps ht h i f p hf hp := by
    unfold BdReach at h
    rw [DataW.weights, ht] at h
    intro n hn
    exact h n (weightsEach_mem (i := i) (by rw [List.getElem?_map]; simp [hf]) hp n hn)

theorem reach_arg {H : Type} {P : Program} {ts : List TypeId} {l : List (DataW H)} (hk : (DataW.weightsEach P ts l).all (· ≤ reachBytes) = true) {i : Nat} {t : TypeId} {d : DataW H} (ht : ts[i]? = some t) (hd : l[i]? = some d) : BdReach P H t d := by
  intro n hn
  have h := List.all_eq_true.1 hk n (weightsEach_mem ht hd n hn)
  exact of_decide_eq_true h
end Go.Proofs.YtiebeiloooblpaaO
end
