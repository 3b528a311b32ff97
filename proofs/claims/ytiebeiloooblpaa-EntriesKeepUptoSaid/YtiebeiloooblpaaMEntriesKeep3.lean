/- Part 3 of the proof of EntriesKeep: the texts that it needs, put together by a program of this session. -/
import Derived.ArgAppend
import Derived.Below
import Derived.BigQuiet
import Derived.Deep.AppendLies
import Derived.Deep.CutBlock
import Derived.Deep.DeepCutAuto
import Derived.Deep.Draws
import Derived.Deep.LoopGhost
import Derived.Deep.OwnRows
import Derived.Deep.QuietTactic
import Derived.Deep.RegionHeld3
import Derived.KernelRfl
import Derived.Laws.BitsLemmas
import Derived.Laws.BytesArg
import Derived.Laws.IdiomCopy
import Derived.Laws.MakeOwn
import Derived.Laws.OwnMore
import Derived.Laws.Rows
import Derived.Laws.Slices
import Derived.Lib.AppendStr
import Derived.Lib.ConvBytes
import Derived.Maps.AppendAt
import Derived.OrdersHeld
import Derived.Outline
import Derived.OwnWalk
import Derived.RowKit
import Derived.RowKit3
import Derived.Tactics
import Derived.Test.YtiebeiloooblpaaProg
import Derived.WalkKit
import Derived.WalkSpells
import Derived.WideLaws
import Derived.Test.YtiebeiloooblpaaMEntriesKeep2
section
-- written by myprint.py, a program of this session over the kit's print.py
namespace Go.Proofs.Ytiebeiloooblpaa.E
open Go.RowKit Go.Proofs.YtiebeiloooblpaaW.PrintWords Go.Proofs.YtiebeiloooblpaaW.PrintLast Go.Proofs.YtiebeiloooblpaaW.PrintMore
attribute [local go_sem] max2_int min2_int max_two min_two max_three min_three max_four min_four   -- for this text's walks alone
set_option linter.unusedVariables false
set_option linter.unusedSimpArgs false



def errW : Option Int → Value
  | none => .nilIface
  | some c => .iface 0 (.int .i64 c)
theorem errW_none : errW none = .nilIface := rfl
theorem errW_some (c : Int) : errW (some c) = .iface 0 (.int .i64 c) := rfl

theorem info33 : (Try.prog.info? 33).map (fun i => (i.zero, i.size, i.bytes)) = some (some (.agg #[(.int .i64 0), (.int .i64 0), (.string ⟨#[]⟩)]), 3, 32) := by kernel_rfl
-- the values' own types
/-! #### struct type 33 -/
structure S33 where
  f0 : Int
  f1 : Int
  f2 : ByteArray
def z33 : S33 := ⟨(0 : Int), (0 : Int), (⟨#[]⟩ : ByteArray)⟩
def k33 : Kd S33 := Kd.iso (Kd.pair (Kd.int .i64) (Kd.pair (Kd.int .i64) Kd.string)) (fun x : S33 => (x.f0, x.f1, x.f2))
theorem k33_open {w : World} {x : S33} {cs : List Value} (h : k33.K w x cs) : cs = [.int .i64 x.f0, .int .i64 x.f1, .string x.f2] := by
  obtain ⟨_, _, rfl, rfl, ⟨_, _, rfl, rfl, rfl⟩⟩ := h
  exact rfl
theorem k33_mkM (w : World) (base : Nat) (ok : Nat → Prop) (x : S33)  : k33.M w base ok x [.int .i64 x.f0, .int .i64 x.f1, .string x.f2] := ⟨[.int .i64 x.f0], [.int .i64 x.f1, .string x.f2], rfl, rfl, ⟨[.int .i64 x.f1], [.string x.f2], rfl, rfl, rfl⟩⟩
def rd_T33 (xs : List S33) (i : Int) : S33 := xs.getD i.toNat z33
theorem at_T33 {w : World} {A : Option Addr} {n : Nat} {xs : List S33} (h : Kd.C k33 w A n xs) (i : Int) (h0 : 0 ≤ i) (h1 : i < n) : ∃ ad , A = some ad ∧ w.cell? (ad.add (i.toNat * 3)) = some (.int .i64 (rd_T33 xs i).f0) ∧ w.cell? ⟨(ad.add (i.toNat * 3)).block, (ad.add (i.toNat * 3)).off + 1, none⟩ = some (.int .i64 (rd_T33 xs i).f1) ∧ w.cell? ⟨(ad.add (i.toNat * 3)).block, (ad.add (i.toNat * 3)).off + 2, none⟩ = some (.string (rd_T33 xs i).f2) := by
  obtain ⟨ad, c, e, _, hK, hc0⟩ := Kd.C_get h z33 i h0 h1
  have hc : ∀ j u, c[j]? = some u → w.cell? (ad.add (i.toNat * 3 + j)) = some u := hc0
  obtain rfl := k33_open hK
  exact ⟨ad, e, hc 0 _ rfl, by rw [← add_field _ _ 1 (by omega)]; exact hc 1 _ rfl, by rw [← add_field _ _ 2 (by omega)]; exact hc 2 _ rfl⟩

end Go.Proofs.Ytiebeiloooblpaa.E
end
section
-- written by myprint.py, a program of this session over the kit's print.py
namespace Go.Proofs.Ytiebeiloooblpaa.E
open Go.RowKit Go.Proofs.YtiebeiloooblpaaW.PrintWords Go.Proofs.YtiebeiloooblpaaW.PrintLast Go.Proofs.YtiebeiloooblpaaW.PrintMore
attribute [local go_sem] max2_int min2_int max_two min_two max_three min_three max_four min_four   -- for this text's walks alone
set_option linter.unusedVariables false
set_option linter.unusedSimpArgs false

theorem eqA23 (d : Nat) (w : World) (x0 y0 : Int) (x1 y1 : Int) :
    (Op.equalIn (d + 2) 23 (.agg #[.int .i64 x0, .int .i64 x1]) (.agg #[.int .i64 y0, .int .i64 y1])).run Try.prog w = .ok (x0 == y0 && (x1 == y1)) w := by
  refine eqA_of Try.underlying23 (by kernel_rfl) ?_
  refine eqf_cons (by rfl) (by go_simp; rfl) (by go_simp; rfl) (by go_simp) ?_
  exact eqf_last (by rfl) (by go_simp; rfl) (by go_simp; rfl) (by go_simp)
end Go.Proofs.Ytiebeiloooblpaa.E
end
section
-- written by myprint.py, a program of this session over the kit's print.py
namespace Go.Proofs.Ytiebeiloooblpaa.E
open Go.RowKit Go.Proofs.YtiebeiloooblpaaW.PrintWords Go.Proofs.YtiebeiloooblpaaW.PrintLast Go.Proofs.YtiebeiloooblpaaW.PrintMore
attribute [local go_sem] max2_int min2_int max_two min_two max_three min_three max_four min_four   -- for this text's walks alone
set_option linter.unusedVariables false
set_option linter.unusedSimpArgs false

theorem eqA33 (d : Nat) (w : World) (x0 y0 : Int) (x1 y1 : Int) (x2 y2 : ByteArray) :
    (Op.equalIn (d + 2) 33 (.agg #[.int .i64 x0, .int .i64 x1, .string x2]) (.agg #[.int .i64 y0, .int .i64 y1, .string y2])).run Try.prog w = .ok (x0 == y0 && (x1 == y1 && (x2.toList == y2.toList))) w := by
  refine eqA_of Try.underlying33 (by kernel_rfl) ?_
  refine eqf_cons (by rfl) (by go_simp; rfl) (by go_simp; rfl) (by go_simp) ?_
  refine eqf_cons (by rfl) (by go_simp; rfl) (by go_simp; rfl) (by go_simp) ?_
  exact eqf_last (by rfl) (by go_simp; rfl) (by go_simp; rfl) (by go_simp)
end Go.Proofs.Ytiebeiloooblpaa.E
end
section
-- written by myprint.py, a program of this session over the kit's print.py
namespace Go.Proofs.Ytiebeiloooblpaa.E
open Go.RowKit Go.Proofs.YtiebeiloooblpaaW.PrintWords Go.Proofs.YtiebeiloooblpaaW.PrintLast Go.Proofs.YtiebeiloooblpaaW.PrintMore
attribute [local go_sem] max2_int min2_int max_two min_two max_three min_three max_four min_four   -- for this text's walks alone
set_option linter.unusedVariables false
set_option linter.unusedSimpArgs false

attribute [local go_sem high] eqA33
/-! ### rialtoref08_SameEntries: function 22 -/
def rialtoref08_SameEntries.l0 : Nat → List (S33) → List (S33) → Int → Option (Bool)
  | 0, _, _, _ => none
  | k + 1, x0, x1, x5 => if x5 < (x0.length : Int) then (if 0 ≤ x5 then (if x5 < (x1.length : Int) then (if (!(((rd_T33 x0 x5).f0) == ((rd_T33 x1 x5).f0)) || (!(((rd_T33 x0 x5).f1) == ((rd_T33 x1 x5).f1)) || (!((((rd_T33 x0 x5).f2).toList) == (((rd_T33 x1 x5).f2).toList))))) = true then (some false) else (rialtoref08_SameEntries.l0 k x0 x1 (wrap64 (x5 + 1)))) else (none)) else (none)) else (some true)
def rialtoref08_SameEntries.f (k : Nat) (l0 : List (S33)) (l1 : List (S33)) : Option (Bool) := if (l0.length : Int) = (l1.length : Int) then (rialtoref08_SameEntries.l0 k l0 l1 0) else (some false)
set_option maxHeartbeats 8000000 in
set_option maxRecDepth 100000 in
theorem rialtoref08_SameEntries.calls (k : Nat) (A0 : Option Addr) (c0 : Nat) (l0 : List (S33)) (A1 : Option Addr) (c1 : Nat) (l1 : List (S33)) (r : Bool) (w : World) (hr0 : Kd.C k33 w A0 l0.length l0) (hc0 : l0.length ≤ c0) (hr1 : Kd.C k33 w A1 l1.length l1) (hc1 : l1.length ≤ c1) (h : rialtoref08_SameEntries.f k l0 l1 = some r) :
    Calls Try.prog 22 #[.slice A0 l0.length c0, .slice A1 l1.length c1] w fun e w' => e = .returned (.bool r) ∧ Drawn0 w w' := by
  have hu33 := Try.underlying33
  have HR0 := Aside0.mk hr0
  have HC0 := Aside0.mk hc0
  clear hr0 hc0
  have HR1 := Aside0.mk hr1
  have HC1 := Aside0.mk hc1
  clear hr1 hc1
  have H : (if (l0.length : Int) = (l1.length : Int) then (rialtoref08_SameEntries.l0 k l0 l1 0) else (some false)) = some r := h
  clear h
  by_cases c3 : (l0.length : Int) = (l1.length : Int)
  · rw [if_pos c3] at H
    have c3b0 : ((l0.length : Int) == (l1.length : Int)) = true := beq_iff_eq.mpr c3
    have c3b1 : ((l0.length : Int) != (l1.length : Int)) = false := bne_eq_false_iff_eq.mpr c3
    have c3b2 : (l0.length == l1.length) = true := by first | simpa using c3 | (simp at c3 ⊢; omega)
    clear c3
    have H' := Aside0.mk H
    clear H
    go_enter Try.func22, Try.ntmps22
    go_wp2
    repeat (go_quiet (fail); try go_wp2)
    go_loopg [5] k (fun kq v5 w' => ∃ (x5_1 : Int), v5 = .int .i64 x5_1 ∧ Aside0 (rialtoref08_SameEntries.l0 kq l0 l1 x5_1 = some r) ∧ Aside0 (kq ≤ k) ∧ Drawn0 w w')
    case atStart => exact ⟨(0), (by first | rfl | (simp; done) | (simp [*]; done)), H', ⟨Nat.le_refl _⟩, by repeat (first | exact Drawn0.refl _ | apply Drawn0.step)⟩
    case round =>
      clear H'
      try clear c1
      try clear c3
      try clear c3b0
      try clear c3b1
      try clear c3b2
      obtain ⟨x5_1, rfl, HA, HK1, ⟨m1, rfl⟩⟩ := hrel
      cases gk with
      | zero => exact absurd HA.out (by simp [rialtoref08_SameEntries.l0])
      | succ k1 =>
        have H := HA.out
        clear HA
        simp only [rialtoref08_SameEntries.l0] at H
        by_cases c4 : x5_1 < (l0.length : Int)
        focus
          rw [if_pos c4] at H
          have c4b0 : decide (x5_1 < (l0.length : Int)) = true := decide_eq_true c4
          clear c4
          by_cases c5 : 0 ≤ x5_1
          focus
            rw [if_pos c5] at H
            have c5b0 : decide (0 ≤ x5_1) = true := decide_eq_true c5
            clear c5
            by_cases c6 : x5_1 < (l1.length : Int)
            focus
              rw [if_pos c6] at H
              have c6b0 : decide (x5_1 < (l1.length : Int)) = true := decide_eq_true c6
              clear c6
              by_cases c7 : (!(((rd_T33 l0 x5_1).f0) == ((rd_T33 l1 x5_1).f0)) || (!(((rd_T33 l0 x5_1).f1) == ((rd_T33 l1 x5_1).f1)) || (!((((rd_T33 l0 x5_1).f2).toList) == (((rd_T33 l1 x5_1).f2).toList))))) = true
              focus
                rw [if_pos c7] at H
                have c7b0 : (!(((rd_T33 l0 x5_1).f0) == ((rd_T33 l1 x5_1).f0)) || (!(((rd_T33 l0 x5_1).f1) == ((rd_T33 l1 x5_1).f1)) || (!((((rd_T33 l0 x5_1).f2).toList) == (((rd_T33 l1 x5_1).f2).toList))))) = true := c7
                clear c7
                obtain rfl := Option.some.inj H
              rotate_left 1
              focus
                rw [if_neg c7] at H
                have c7b0 : (!(((rd_T33 l0 x5_1).f0) == ((rd_T33 l1 x5_1).f0)) || (!(((rd_T33 l0 x5_1).f1) == ((rd_T33 l1 x5_1).f1)) || (!((((rd_T33 l0 x5_1).f2).toList) == (((rd_T33 l1 x5_1).f2).toList))))) = false := by simpa using c7
                clear c7
                have H' := Aside0.mk H
                clear H
              rotate_left 1
            rotate_left 2
            focus
              rw [if_neg c6] at H
            rotate_left 1
          rotate_left 3
          focus
            rw [if_neg c5] at H
          rotate_left 1
        rotate_left 4
        focus
          rw [if_neg c4] at H
          have c4b0 : decide (x5_1 < (l0.length : Int)) = false := decide_eq_false c4
          clear c4
          obtain rfl := Option.some.inj H
        rotate_left 1
        iterate 2
          focus
            have p107 : 0 ≤ (x5_1 : Int) := of_decide_eq_true (by first | (with_reducible assumption) | assumption)
            have q107 : x5_1 < (l0.length : Int) := of_decide_eq_true (by first | (with_reducible assumption) | assumption)
            obtain ⟨ad107, e107, hx107_0, hx107_1, hx107_2⟩ := at_T33 HR0.out x5_1 p107 q107
            cases e107
            replace p107 := eq_true p107
            replace q107 := eq_true q107
            have p108 : 0 ≤ (x5_1 : Int) := of_decide_eq_true (by first | (with_reducible assumption) | assumption)
            have q108 : x5_1 < (l1.length : Int) := of_decide_eq_true (by first | (with_reducible assumption) | assumption)
            obtain ⟨ad108, e108, hx108_0, hx108_1, hx108_2⟩ := at_T33 HR1.out x5_1 p108 q108
            cases e108
            replace p108 := eq_true p108
            replace q108 := eq_true q108
            go_wp2
            repeat (go_quiet (fail); try go_wp2)
          rotate_left
        iterate 2
          focus
            exact absurd H (by simp)
        focus
          go_wp2
          repeat (go_quiet (fail); try go_wp2)
          go_ret
          exact ⟨by first | rfl | (simp; done) | (simp [*]; done), by repeat (first | exact Drawn0.refl _ | apply Drawn0.step)⟩
        focus
          go_ret
          exact ⟨by first | rfl | (simp; done) | (simp [*]; done), by repeat (first | exact Drawn0.refl _ | apply Drawn0.step)⟩
        focus
          go_roundg k1
          case measure => have := HK1.out; omega
          case rel => exact ⟨(wrap64 (x5_1 + 1)), (by first | rfl | (simp; done) | (simp [*]; done)), H', ⟨by have := HK1.out; omega⟩, by repeat (first | exact Drawn0.refl _ | apply Drawn0.step)⟩
  · rw [if_neg c3] at H
    have c3b0 : ((l0.length : Int) == (l1.length : Int)) = false := beq_eq_false_iff_ne.mpr c3
    have c3b1 : ((l0.length : Int) != (l1.length : Int)) = true := bne_iff_ne.mpr c3
    have c3b2 : (l0.length == l1.length) = false := by first | simpa using c3 | (simp at c3 ⊢; omega)
    obtain rfl := Option.some.inj H
    go_enter Try.func22, Try.ntmps22
    go_wp2
    repeat (go_quiet (fail); try go_wp2)
    go_ret
    exact ⟨by first | rfl | (simp; done) | (simp [*]; done), by repeat (first | exact Drawn0.refl _ | apply Drawn0.step)⟩

end Go.Proofs.Ytiebeiloooblpaa.E
end
section
-- written by myprint.py, a program of this session over the kit's print.py
namespace Go.Proofs.Ytiebeiloooblpaa.E
open Go.RowKit Go.Proofs.YtiebeiloooblpaaW.PrintWords Go.Proofs.YtiebeiloooblpaaW.PrintLast Go.Proofs.YtiebeiloooblpaaW.PrintMore
attribute [local go_sem] max2_int min2_int max_two min_two max_three min_three max_four min_four   -- for this text's walks alone
set_option linter.unusedVariables false
set_option linter.unusedSimpArgs false

/-! ### entries_within: function 42 -/
def entries_within.f (a0 : Int) (a1 : Int) (a2 : Int) : Option (Bool) := if a1 ≤ a0 then (some (decide (a0 ≤ a2))) else (some false)
set_option maxHeartbeats 8000000 in
set_option maxRecDepth 100000 in
theorem entries_within.calls (a0 : Int) (a1 : Int) (a2 : Int) (r : Bool) (w : World) (h : entries_within.f a0 a1 a2 = some r) :
    Calls Try.prog 42 #[.int .i64 a0, .int .i64 a1, .int .i64 a2] w fun e w' => e = .returned (.bool r) ∧ Drawn0 w w' := by
  have H : (if a1 ≤ a0 then (some (decide (a0 ≤ a2))) else (some false)) = some r := h
  clear h
  by_cases c4 : a1 ≤ a0
  focus
    rw [if_pos c4] at H
    have c4b0 : decide (a1 ≤ a0) = true := decide_eq_true c4
    clear c4
    obtain rfl := Option.some.inj H
  rotate_left 1
  focus
    rw [if_neg c4] at H
    have c4b0 : decide (a1 ≤ a0) = false := decide_eq_false c4
    clear c4
    obtain rfl := Option.some.inj H
  rotate_left 1
  all_goals
    go_enter Try.func42, Try.ntmps42
    go_wp2
    go_ret
    exact ⟨by first | rfl | (simp; done) | (simp [*]; done), by repeat (first | exact Drawn0.refl _ | apply Drawn0.step)⟩

end Go.Proofs.Ytiebeiloooblpaa.E
end
section
-- written by myprint.py, a program of this session over the kit's print.py
namespace Go.Proofs.Ytiebeiloooblpaa.E
open Go.RowKit Go.Proofs.YtiebeiloooblpaaW.PrintWords Go.Proofs.YtiebeiloooblpaaW.PrintLast Go.Proofs.YtiebeiloooblpaaW.PrintMore
attribute [local go_sem] max2_int min2_int max_two min_two max_three min_three max_four min_four   -- for this text's walks alone
set_option linter.unusedVariables false
set_option linter.unusedSimpArgs false

/-! ### entries_isMark: function 41 -/
def entries_isMark.f (a0_0 : Int) (a0_1 : Int) : Option (Bool) := (entries_within.f a0_0 0 1000000).bind fun t114 => (if t114 = true then ((entries_within.f a0_1 0 1000000).bind fun t115 => (if t115 = true then (some ((a0_0 == 0) == (a0_1 == 0))) else (some false))) else (some false))
set_option maxHeartbeats 8000000 in
set_option maxRecDepth 100000 in
theorem entries_isMark.calls (a0_0 : Int) (a0_1 : Int) (r : Bool) (w : World) (h : entries_isMark.f a0_0 a0_1 = some r) :
    Calls Try.prog 41 #[.agg #[.int .i64 a0_0, .int .i64 a0_1]] w fun e w' => e = .returned (.bool r) ∧ Below w.heap.size w w' := by
  have hu23 := Try.underlying23
  have HB := Aside0.mk (Below.refl w.heap.size w)
  have H : ((entries_within.f a0_0 0 1000000).bind fun t114 => (if t114 = true then ((entries_within.f a0_1 0 1000000).bind fun t115 => (if t115 = true then (some ((a0_0 == 0) == (a0_1 == 0))) else (some false))) else (some false))) = some r := h
  clear h
  replace H := Option.bind_eq_some_iff.mp H
  obtain ⟨t114, A20, H⟩ := H
  replace H : (if t114 = true then ((entries_within.f a0_1 0 1000000).bind fun t115 => (if t115 = true then (some ((a0_0 == 0) == (a0_1 == 0))) else (some false))) else (some false)) = some r := H
  have A2 := Aside0.mk A20
  clear A20
  by_cases c3 : t114 = true
  focus
    subst c3
    have H1 : ((entries_within.f a0_1 0 1000000).bind fun t115 => (if t115 = true then (some ((a0_0 == 0) == (a0_1 == 0))) else (some false))) = some r := by rw [if_pos rfl] at H; exact H
    clear H
    have H := H1
    clear H1
    replace H := Option.bind_eq_some_iff.mp H
    obtain ⟨t115, A40, H⟩ := H
    replace H : (if t115 = true then (some ((a0_0 == 0) == (a0_1 == 0))) else (some false)) = some r := H
    have A4 := Aside0.mk A40
    clear A40
    by_cases c5 : t115 = true
    focus
      subst c5
      have H1 : (some ((a0_0 == 0) == (a0_1 == 0))) = some r := by rw [if_pos rfl] at H; exact H
      clear H
      have H := H1
      clear H1
      obtain rfl := Option.some.inj H
    rotate_left 1
    focus
      replace c5 := Bool.eq_false_iff.mpr c5
      subst c5
      have H1 : (some false) = some r := by rw [if_neg (show ¬ (false = true) by decide)] at H; exact H
      clear H
      have H := H1
      clear H1
      obtain rfl := Option.some.inj H
    rotate_left 1
  rotate_left 2
  focus
    replace c3 := Bool.eq_false_iff.mpr c3
    subst c3
    have H1 : (some false) = some r := by rw [if_neg (show ¬ (false = true) by decide)] at H; exact H
    clear H
    have H := H1
    clear H1
    obtain rfl := Option.some.inj H
  rotate_left 1
  all_goals
    go_enter Try.func41, Try.ntmps41
    go_wp2_with (first | ((with_reducible refine gate_dst (N := 1) rfl ?_); refine box_event ?hg (N := 1) ?hd (cs := #[.int .i64 a0_0, .int .i64 a0_1]) (t := 23) ?hr ?_; (case hd => rfl); (case hg => rfl); (case hr => first | (go_simp; done) | (go_simp; rfl)); intro gb113 hg wx1i0 hbox hb; have n0_ := Aside0.mk (below_step (by repeat (first | (with_reducible first | exact HB.out | apply below_alloc | apply pw_below_drewN | apply below_drew1) | exact HB.out)) hb); have n1_ := Aside0.mk (hbox); have n2_ := Aside0.mk ((by rw [hg]; exact (below_size (by repeat (first | (with_reducible first | exact HB.out | apply below_alloc | apply pw_below_drewN | apply below_drew1) | exact HB.out))) : w.heap.size ≤ gb113)); have n3_ := Aside0.mk ((by rw [hg]; exact (below_size (by repeat (first | (with_reducible first | exact HB.out | apply below_alloc | apply pw_below_drewN | apply below_drew1) | exact HB.out))) : w.heap.size ≤ gb113)); clear HB; have HB := n0_; have BK113 := n1_; have GW113 := n2_; have GE113 := n3_; clear n0_ n1_ n2_ n3_; clear hb hbox hg; have hczx1b113_0 : wx1i0.cell? ⟨gb113, 0, none⟩ = some (.int .i64 a0_0) := (blk_cell BK113.out 0).trans rfl; have hczx1b113_1 : wx1i0.cell? ⟨gb113, 1, none⟩ = some (.int .i64 a0_1) := (blk_cell BK113.out 1).trans rfl; have hfzx1b113_0 := blk_frozen BK113.out 0; have hfzx1b113_1 := blk_frozen BK113.out 1) | ((with_reducible refine gate_callee (f := 42) rfl ?_); refine goesL_ (some 5) rfl rfl Try.func42 (by kernel_rfl) rfl #[.int .i64 a0_0, .int .i64 0, .int .i64 1000000] rfl (by (try simp only [List.map_toArray, List.map_cons, List.map_nil]); first | done | rfl | (simp only [List.length_drop, List.length_take]; rfl)) ?_; (with_reducible refine (entries_within.calls a0_0 0 1000000 _ _ A2.out).mono ?_); rintro e w' ⟨rfl, ⟨nd, rfl⟩⟩; refine ⟨_, rfl, ?_⟩) | (go_at_call 42; (with_reducible refine (entries_within.calls a0_1 0 1000000 _ _ A4.out).mono ?_); rintro e w' ⟨rfl, ⟨nd, rfl⟩⟩))
    go_ret
    exact ⟨by first | rfl | (simp [errW_none, errW_some] <;> rfl) | (simp [*, errW_none, errW_some] <;> rfl), by repeat (first | (with_reducible first | exact HB.out | apply below_alloc | apply pw_below_drewN | apply below_drew1 | refine below_set ?_ GE113.out) | exact HB.out)⟩

end Go.Proofs.Ytiebeiloooblpaa.E
end
section
-- written by myprint.py, a program of this session over the kit's print.py
namespace Go.Proofs.Ytiebeiloooblpaa.E
open Go.RowKit Go.Proofs.YtiebeiloooblpaaW.PrintWords Go.Proofs.YtiebeiloooblpaaW.PrintLast Go.Proofs.YtiebeiloooblpaaW.PrintMore
attribute [local go_sem] max2_int min2_int max_two min_two max_three min_three max_four min_four   -- for this text's walks alone
set_option linter.unusedVariables false
set_option linter.unusedSimpArgs false

/-! ### entries_isEntry: function 51 -/
section

attribute [local go_sem high] eqA33
def entries_isEntry.p (x0 x1 : Int) (x2 : ByteArray) : Bool := (decide (1 ≤ x0) && decide (x0 ≤ 1000000)) && ((x1 == 1 && x2.toList == []) || (x1 == 2 && decide ((x2.size : Int) ≤ 4000)))
def entries_isEntry.f (x0 x1 : Int) (x2 : ByteArray) : Option Bool := some (entries_isEntry.p x0 x1 x2)
set_option maxHeartbeats 8000000 in
set_option maxRecDepth 100000 in
theorem entries_isEntry.calls (x0 x1 : Int) (x2 : ByteArray) (r : Bool) (w : World) (h : entries_isEntry.f x0 x1 x2 = some r) :
    Calls Try.prog 51 #[.agg #[.int .i64 x0, .int .i64 x1, .string x2]] w fun e w' => e = .returned (.bool r) ∧ Below w.heap.size w w' := by
  obtain rfl := Option.some.inj h
  clear h
  have hu := Try.underlying33
  have hwi : ∀ W : World, Calls Try.prog 42 #[.int .i64 x0, .int .i64 1, .int .i64 1000000] W fun e w' => e = .returned (.bool (decide (1 ≤ x0) && decide (x0 ≤ 1000000))) ∧ Drawn0 W w' := fun W => by
    refine entries_within.calls x0 1 1000000 _ W ?_
    unfold entries_within.f
    by_cases h : 1 ≤ x0 <;> simp [h]
  obtain ⟨b, hb⟩ : ∃ b, b = (decide (1 ≤ x0) && decide (x0 ≤ 1000000)) := ⟨_, rfl⟩
  rw [← hb] at hwi
  unfold entries_isEntry.p
  rw [← hb]
  have HW := Aside0.mk hwi
  clear hwi hb
  cases b with
  | false =>
    go_enter Try.func51, Try.ntmps51
    go_wp2_with fail
    refine (HW.out _).mono ?_
    rintro e w' ⟨rfl, hd⟩
    have hB := hd.below
    have HB := Aside0.mk hB
    clear hB hd HW
    go_wp2
    go_ret
    exact ⟨by first | (simp; done) | (simp; omega), below_step (below_alloc (below_alloc (Below.refl _ _) _) _) HB.out⟩
  | true =>
    have fin : ∀ (q : Bool), q = (x1 == 1 && x2.toList == [] || x1 == 2 && decide ((x2.size : Int) ≤ 4000)) → Calls Try.prog 51 #[.agg #[.int .i64 x0, .int .i64 x1, .string x2]] w fun e w' => e = .returned (.bool q) ∧ Below w.heap.size w w' := by
      intro q hq
      by_cases h1 : x1 = 1
      · subst h1
        by_cases h2 : x2.toList = []
        · have hl : (x2.toList == []) = true := by simp [h2]
          obtain rfl : q = true := by rw [hq, hl]; rfl
          clear hq h2
          go_enter Try.func51, Try.ntmps51
          go_wp2_with fail
          refine (HW.out _).mono ?_
          rintro e w' ⟨rfl, hd⟩
          have HB := Aside0.mk hd.below
          obtain ⟨nd, rfl⟩ := hd
          go_wp2
          go_ret
          exact ⟨by first | (simp; done) | (simp; omega), below_step (below_alloc (below_alloc (Below.refl _ _) _) _) HB.out⟩
        · have hl : (x2.toList == []) = false := by simp [h2]
          obtain rfl : q = false := by rw [hq, hl]; simp
          clear hq h2
          go_enter Try.func51, Try.ntmps51
          go_wp2_with fail
          refine (HW.out _).mono ?_
          rintro e w' ⟨rfl, hd⟩
          have HB := Aside0.mk hd.below
          obtain ⟨nd, rfl⟩ := hd
          go_wp2
          go_ret
          exact ⟨by first | (simp; done) | (simp; omega), below_step (below_alloc (below_alloc (Below.refl _ _) _) _) HB.out⟩
      · by_cases h2 : x1 = 2
        · subst h2
          by_cases h3 : (x2.size : Int) ≤ 4000
          · obtain rfl : q = true := by rw [hq, decide_eq_true h3]; simp
            clear hq h1
            go_enter Try.func51, Try.ntmps51
            go_wp2_with fail
            refine (HW.out _).mono ?_
            rintro e w' ⟨rfl, hd⟩
            have HB := Aside0.mk hd.below
            obtain ⟨nd, rfl⟩ := hd
            go_wp2
            go_ret
            exact ⟨by first | (simp; done) | (simp; omega), below_step (below_alloc (below_alloc (Below.refl _ _) _) _) HB.out⟩
          · obtain rfl : q = false := by rw [hq, decide_eq_false h3]; simp
            clear hq h1
            go_enter Try.func51, Try.ntmps51
            go_wp2_with fail
            refine (HW.out _).mono ?_
            rintro e w' ⟨rfl, hd⟩
            have HB := Aside0.mk hd.below
            obtain ⟨nd, rfl⟩ := hd
            go_wp2
            go_ret
            exact ⟨by first | (simp; done) | (simp; omega), below_step (below_alloc (below_alloc (Below.refl _ _) _) _) HB.out⟩
        · have e1 : (x1 == 1) = false := by simp [h1]
          have e2 : (x1 == 2) = false := by simp [h2]
          obtain rfl : q = false := by rw [hq, e1, e2]; simp
          clear hq h1 h2
          go_enter Try.func51, Try.ntmps51
          go_wp2_with fail
          refine (HW.out _).mono ?_
          rintro e w' ⟨rfl, hd⟩
          have HB := Aside0.mk hd.below
          obtain ⟨nd, rfl⟩ := hd
          go_wp2
          go_ret
          exact ⟨by first | (simp; done) | (simp; omega), below_step (below_alloc (below_alloc (Below.refl _ _) _) _) HB.out⟩
    exact fin _ (by simp)

end

end Go.Proofs.Ytiebeiloooblpaa.E
end
section
-- written by myprint.py, a program of this session over the kit's print.py
namespace Go.Proofs.Ytiebeiloooblpaa.E
open Go.RowKit Go.Proofs.YtiebeiloooblpaaW.PrintWords Go.Proofs.YtiebeiloooblpaaW.PrintLast Go.Proofs.YtiebeiloooblpaaW.PrintMore
attribute [local go_sem] max2_int min2_int max_two min_two max_three min_three max_four min_four   -- for this text's walks alone
set_option linter.unusedVariables false
set_option linter.unusedSimpArgs false

/-! ### entries_rising: function 43 -/
def entries_rising.l0 : Nat → Int → List (S33) → Int → Int → Option (Bool)
  | 0, _, _, _, _ => none
  | k + 1, x1, x7, x8, x9 => if x9 < x8 then (if 0 ≤ x9 then (if x9 < (x7.length : Int) then ((entries_isEntry.f ((rd_T33 x7 x9).f0) ((rd_T33 x7 x9).f1) ((rd_T33 x7 x9).f2)).bind fun t118 => (if t118 = true then (if ((rd_T33 x7 x9).f0) < x1 then (some false) else (entries_rising.l0 k ((rd_T33 x7 x9).f0) x7 x8 (wrap64 (x9 + 1)))) else (some false))) else (none)) else (none)) else (some true)
def entries_rising.f (k : Nat) (l0 : List (S33)) (a1 : Int) : Option (Bool) := entries_rising.l0 k a1 l0 (l0.length : Int) 0
theorem entries_rising.mono_l : ∀ k, (∀ y0 y1 y2 y3, LeO (entries_rising.l0 k y0 y1 y2 y3) (entries_rising.l0 (k + 1) y0 y1 y2 y3))
  | 0 => fun _ _ _ _ r h => by simp [entries_rising.l0] at h
  | k + 1 => by
    have ih0 := entries_rising.mono_l k
    · intro y0 y1 y2 y3
      unfold entries_rising.l0
      repeat' first
      | (with_reducible exact ih0 _ _ _ _)
      | (with_reducible exact LeO.refl _)
      | (with_reducible exact LeO.none _)
      | (with_reducible refine LeO.ite ?_ ?_)
      | (with_reducible refine LeO.bind ?_ (fun _ => ?_))
      | exact ih0 _ _ _ _
      | exact LeO.none _
      | refine LeO.ite ?_ ?_
      | refine LeO.bind ?_ (fun _ => ?_)
theorem entries_rising.mono : ∀ a0 a1 k, LeO (entries_rising.f k a0 a1) (entries_rising.f (k + 1) a0 a1) := by
  intro a0 a1 k
  have ih0 := entries_rising.mono_l k
  unfold entries_rising.f
  repeat' first
      | (with_reducible exact ih0 _ _ _ _)
      | (with_reducible exact LeO.refl _)
      | (with_reducible exact LeO.none _)
      | (with_reducible refine LeO.ite ?_ ?_)
      | (with_reducible refine LeO.bind ?_ (fun _ => ?_))
      | exact ih0 _ _ _ _
      | exact LeO.none _
      | refine LeO.ite ?_ ?_
      | refine LeO.bind ?_ (fun _ => ?_)
set_option maxHeartbeats 8000000 in
set_option maxRecDepth 100000 in
theorem entries_rising.calls (k : Nat) (A0 : Option Addr) (c0 : Nat) (l0 : List (S33)) (a1 : Int) (r : Bool) (w : World) (hr0 : Kd.C k33 w A0 l0.length l0) (hc0 : l0.length ≤ c0) (h : entries_rising.f k l0 a1 = some r) :
    Calls Try.prog 43 #[.slice A0 l0.length c0, .int .i64 a1] w fun e w' => e = .returned (.bool r) ∧ Below w.heap.size w w' := by
  have hu33 := Try.underlying33
  have HR0 := Aside0.mk hr0
  have HC0 := Aside0.mk hc0
  clear hr0 hc0
  have HB := Aside0.mk (Below.refl w.heap.size w)
  have H : (entries_rising.l0 k a1 l0 (l0.length : Int) 0) = some r := h
  clear h
  have H' := Aside0.mk H
  clear H
  go_enter Try.func43, Try.ntmps43
  go_wp2
  go_loopg [1, 9] k (fun kq v1 v9 w' => ∃ (x1_1 : Int) (x9_1 : Int), v1 = .int .i64 x1_1 ∧ v9 = .int .i64 x9_1 ∧ Aside0 (entries_rising.l0 kq x1_1 l0 (l0.length : Int) x9_1 = some r) ∧ Aside0 (kq ≤ k) ∧ Aside0 (Below w.heap.size w w'))
  case atStart => exact ⟨(a1), (0), (by first | rfl | (simp; done) | (simp [*]; done)), (by first | rfl | (simp; done) | (simp [*]; done)), H', ⟨Nat.le_refl _⟩, ⟨by repeat (first | (with_reducible first | exact HB.out | apply below_alloc | apply pw_below_drewN | apply below_drew1) | exact HB.out)⟩⟩
  case round =>
    clear H'
    obtain ⟨x1_1, x9_1, rfl, rfl, HA, HK1, HB⟩ := hrel
    cases gk with
    | zero => exact absurd HA.out (by simp [entries_rising.l0])
    | succ k1 =>
      have H := HA.out
      clear HA
      simp only [entries_rising.l0] at H
      by_cases c3 : x9_1 < (l0.length : Int)
      focus
        rw [if_pos c3] at H
        have c3b0 : decide (x9_1 < (l0.length : Int)) = true := decide_eq_true c3
        clear c3
        by_cases c4 : 0 ≤ x9_1
        focus
          rw [if_pos c4] at H
          have c4b0 : decide (0 ≤ x9_1) = true := decide_eq_true c4
          clear c4
          by_cases c5 : x9_1 < (l0.length : Int)
          focus
            rw [if_pos c5] at H
            have c5b0 : decide (x9_1 < (l0.length : Int)) = true := decide_eq_true c5
            clear c5
            replace H := Option.bind_eq_some_iff.mp H
            obtain ⟨t118, A60, H⟩ := H
            replace H : (if t118 = true then (if ((rd_T33 l0 x9_1).f0) < x1_1 then (some false) else (entries_rising.l0 k1 ((rd_T33 l0 x9_1).f0) l0 (l0.length : Int) (wrap64 (x9_1 + 1)))) else (some false)) = some r := H
            have A6 := Aside0.mk A60
            clear A60
            by_cases c7 : t118 = true
            focus
              subst c7
              have H1 : (if ((rd_T33 l0 x9_1).f0) < x1_1 then (some false) else (entries_rising.l0 k1 ((rd_T33 l0 x9_1).f0) l0 (l0.length : Int) (wrap64 (x9_1 + 1)))) = some r := by rw [if_pos rfl] at H; exact H
              clear H
              have H := H1
              clear H1
              by_cases c8 : ((rd_T33 l0 x9_1).f0) < x1_1
              focus
                rw [if_pos c8] at H
                have c8b0 : decide (((rd_T33 l0 x9_1).f0) < x1_1) = true := decide_eq_true c8
                clear c8
                obtain rfl := Option.some.inj H
              rotate_left 1
              focus
                rw [if_neg c8] at H
                have c8b0 : decide (((rd_T33 l0 x9_1).f0) < x1_1) = false := decide_eq_false c8
                clear c8
                have H' := Aside0.mk H
                clear H
              rotate_left 1
            rotate_left 2
            focus
              replace c7 := Bool.eq_false_iff.mpr c7
              subst c7
              have H1 : (some false) = some r := by rw [if_neg (show ¬ (false = true) by decide)] at H; exact H
              clear H
              have H := H1
              clear H1
              obtain rfl := Option.some.inj H
            rotate_left 1
          rotate_left 3
          focus
            rw [if_neg c5] at H
          rotate_left 1
        rotate_left 4
        focus
          rw [if_neg c4] at H
        rotate_left 1
      rotate_left 5
      focus
        rw [if_neg c3] at H
        have c3b0 : decide (x9_1 < (l0.length : Int)) = false := decide_eq_false c3
        clear c3
        obtain rfl := Option.some.inj H
      rotate_left 1
      iterate 3
        focus
          have p116 : 0 ≤ (x9_1 : Int) := of_decide_eq_true (by first | (with_reducible assumption) | assumption)
          have q116 : x9_1 < (l0.length : Int) := of_decide_eq_true (by first | (with_reducible assumption) | assumption)
          obtain ⟨ad116, e116, hx116_0, hx116_1, hx116_2⟩ := at_T33 HR0.out x9_1 p116 q116
          cases e116
          replace hx116_0 := (HB.out.cell (World.block_lt_of_cell? w _ hx116_0)).trans hx116_0
          replace hx116_1 := (HB.out.cell (World.block_lt_of_cell? w _ hx116_1)).trans hx116_1
          replace hx116_2 := (HB.out.cell (World.block_lt_of_cell? w _ hx116_2)).trans hx116_2
          replace p116 := eq_true p116
          replace q116 := eq_true q116
          go_wp2_with (first | ((with_reducible refine gate_dst (N := 6) rfl ?_); refine box_event ?hg (N := 6) ?hd (cs := #[.int .i64 0, .int .i64 0, .string (⟨#[]⟩ : ByteArray)]) (t := 33) ?hr ?_; (case hd => rfl); (case hg => rfl); (case hr => first | (go_simp; done) | (go_simp; rfl)); intro gb117 hg wx6i0 hbox hb; have n0_ := Aside0.mk (below_step (by repeat (first | (with_reducible first | exact HB.out | apply below_alloc | apply pw_below_drewN | apply below_drew1) | exact HB.out)) hb); have n1_ := Aside0.mk (hbox); have n2_ := Aside0.mk ((by rw [hg]; exact (below_size (by repeat (first | (with_reducible first | exact HB.out | apply below_alloc | apply pw_below_drewN | apply below_drew1) | exact HB.out))) : w.heap.size ≤ gb117)); have n3_ := Aside0.mk ((by rw [hg]; exact (below_size (by repeat (first | (with_reducible first | exact HB.out | apply below_alloc | apply pw_below_drewN | apply below_drew1) | exact HB.out))) : w.heap.size ≤ gb117)); clear HB; have HB := n0_; have BK117 := n1_; have GW117 := n2_; have GE117 := n3_; clear n0_ n1_ n2_ n3_; clear hb hbox hg; have hczx6b117_0 : wx6i0.cell? ⟨gb117, 0, none⟩ = some (.int .i64 0) := (blk_cell BK117.out 0).trans rfl; have hczx6b117_1 : wx6i0.cell? ⟨gb117, 1, none⟩ = some (.int .i64 0) := (blk_cell BK117.out 1).trans rfl; have hczx6b117_2 : wx6i0.cell? ⟨gb117, 2, none⟩ = some (.string (⟨#[]⟩ : ByteArray)) := (blk_cell BK117.out 2).trans rfl; have hfzx6b117_0 := blk_frozen BK117.out 0; have hfzx6b117_1 := blk_frozen BK117.out 1; have hfzx6b117_2 := blk_frozen BK117.out 2) | ((with_reducible refine gate_callee (f := 51) rfl ?_); refine goesL_ (some 14) rfl rfl Try.func51 (by kernel_rfl) rfl #[.agg #[.int .i64 ((rd_T33 l0 x9_1).f0), .int .i64 ((rd_T33 l0 x9_1).f1), .string ((rd_T33 l0 x9_1).f2)]] rfl (by (try simp only [List.map_toArray, List.map_cons, List.map_nil]); first | done | rfl | (simp only [List.length_drop, List.length_take]; rfl)) ?_; (with_reducible refine (entries_isEntry.calls ((rd_T33 l0 x9_1).f0) ((rd_T33 l0 x9_1).f1) ((rd_T33 l0 x9_1).f2) true _ A6.out).mono ?_); rintro e wx14i0 ⟨rfl, hb⟩; refine ⟨_, rfl, ?_⟩; have n0_ := Aside0.mk (blk_below (g := gb117) (o := .cells #[.int .i64 ((rd_T33 l0 x9_1).f0), .int .i64 ((rd_T33 l0 x9_1).f1), .string ((rd_T33 l0 x9_1).f2)] 33 (0, 0)) (by (with_reducible repeat (first | refine blk_drewN ?_ _ | refine blk_drew ?_ | refine blk_alloc ?_ _)); refine blk_put (cs := #[.int .i64 ((rd_T33 l0 x9_1).f0), .int .i64 ((rd_T33 l0 x9_1).f1), .string (⟨#[]⟩ : ByteArray)]) ?_ 2 _ rfl; (with_reducible repeat (first | refine blk_drewN ?_ _ | refine blk_drew ?_ | refine blk_alloc ?_ _)); refine blk_put (cs := #[.int .i64 ((rd_T33 l0 x9_1).f0), .int .i64 0, .string (⟨#[]⟩ : ByteArray)]) ?_ 1 _ rfl; (with_reducible repeat (first | refine blk_drewN ?_ _ | refine blk_drew ?_ | refine blk_alloc ?_ _)); refine blk_put (cs := #[.int .i64 0, .int .i64 0, .string (⟨#[]⟩ : ByteArray)]) ?_ 0 _ rfl; (with_reducible repeat (first | refine blk_drewN ?_ _ | refine blk_drew ?_ | refine blk_alloc ?_ _)); exact BK117.out) hb); have n1_ := Aside0.mk (below_step (by repeat (first | (with_reducible first | exact HB.out | apply below_alloc | apply pw_below_drewN | apply below_drew1 | refine below_set ?_ GE117.out) | exact HB.out)) hb); clear BK117; clear HB; have BK117 := n0_; have HB := n1_; clear n0_ n1_; (try clear hb); (try clear hb2); (try clear hk); (try clear hi); have hczx14b117_0 : wx14i0.cell? ⟨gb117, 0, none⟩ = some (.int .i64 ((rd_T33 l0 x9_1).f0)) := (blk_cell BK117.out 0).trans rfl; have hczx14b117_1 : wx14i0.cell? ⟨gb117, 1, none⟩ = some (.int .i64 ((rd_T33 l0 x9_1).f1)) := (blk_cell BK117.out 1).trans rfl; have hczx14b117_2 : wx14i0.cell? ⟨gb117, 2, none⟩ = some (.string ((rd_T33 l0 x9_1).f2)) := (blk_cell BK117.out 2).trans rfl; have hfzx14b117_0 := blk_frozen BK117.out 0; have hfzx14b117_1 := blk_frozen BK117.out 1; have hfzx14b117_2 := blk_frozen BK117.out 2) | ((with_reducible refine gate_callee (f := 51) rfl ?_); refine goesL_ (some 14) rfl rfl Try.func51 (by kernel_rfl) rfl #[.agg #[.int .i64 ((rd_T33 l0 x9_1).f0), .int .i64 ((rd_T33 l0 x9_1).f1), .string ((rd_T33 l0 x9_1).f2)]] rfl (by (try simp only [List.map_toArray, List.map_cons, List.map_nil]); first | done | rfl | (simp only [List.length_drop, List.length_take]; rfl)) ?_; (with_reducible refine (entries_isEntry.calls ((rd_T33 l0 x9_1).f0) ((rd_T33 l0 x9_1).f1) ((rd_T33 l0 x9_1).f2) false _ A6.out).mono ?_); rintro e wx14i0 ⟨rfl, hb⟩; refine ⟨_, rfl, ?_⟩; have n0_ := Aside0.mk (blk_below (g := gb117) (o := .cells #[.int .i64 ((rd_T33 l0 x9_1).f0), .int .i64 ((rd_T33 l0 x9_1).f1), .string ((rd_T33 l0 x9_1).f2)] 33 (0, 0)) (by (with_reducible repeat (first | refine blk_drewN ?_ _ | refine blk_drew ?_ | refine blk_alloc ?_ _)); refine blk_put (cs := #[.int .i64 ((rd_T33 l0 x9_1).f0), .int .i64 ((rd_T33 l0 x9_1).f1), .string (⟨#[]⟩ : ByteArray)]) ?_ 2 _ rfl; (with_reducible repeat (first | refine blk_drewN ?_ _ | refine blk_drew ?_ | refine blk_alloc ?_ _)); refine blk_put (cs := #[.int .i64 ((rd_T33 l0 x9_1).f0), .int .i64 0, .string (⟨#[]⟩ : ByteArray)]) ?_ 1 _ rfl; (with_reducible repeat (first | refine blk_drewN ?_ _ | refine blk_drew ?_ | refine blk_alloc ?_ _)); refine blk_put (cs := #[.int .i64 0, .int .i64 0, .string (⟨#[]⟩ : ByteArray)]) ?_ 0 _ rfl; (with_reducible repeat (first | refine blk_drewN ?_ _ | refine blk_drew ?_ | refine blk_alloc ?_ _)); exact BK117.out) hb); have n1_ := Aside0.mk (below_step (by repeat (first | (with_reducible first | exact HB.out | apply below_alloc | apply pw_below_drewN | apply below_drew1 | refine below_set ?_ GE117.out) | exact HB.out)) hb); clear BK117; clear HB; have BK117 := n0_; have HB := n1_; clear n0_ n1_; (try clear hb); (try clear hb2); (try clear hk); (try clear hi)))
        rotate_left
      iterate 2
        focus
          exact absurd H (by simp)
      focus
        go_wp2
        go_ret
        exact ⟨by first | rfl | (simp [errW_none, errW_some] <;> rfl) | (simp [*, errW_none, errW_some] <;> rfl), by repeat (first | (with_reducible first | exact HB.out | apply below_alloc | apply pw_below_drewN | apply below_drew1) | exact HB.out)⟩
      focus
        go_ret
        exact ⟨by first | rfl | (simp [errW_none, errW_some] <;> rfl) | (simp [*, errW_none, errW_some] <;> rfl), by repeat (first | (with_reducible first | exact HB.out | apply below_alloc | apply pw_below_drewN | apply below_drew1 | refine below_set ?_ GE117.out) | exact HB.out)⟩
      focus
        go_roundg k1
        case measure => have := HK1.out; omega
        case rel => exact ⟨((rd_T33 l0 x9_1).f0), (wrap64 (x9_1 + 1)), (by first | rfl | (simp; done) | (simp [*]; done)), (by first | rfl | (simp; done) | (simp [*]; done)), H', ⟨by have := HK1.out; omega⟩, ⟨by repeat (first | (with_reducible first | exact HB.out | apply below_alloc | apply pw_below_drewN | apply below_drew1 | refine below_set ?_ GE117.out) | exact HB.out)⟩⟩
      focus
        go_ret
        exact ⟨by first | rfl | (simp [errW_none, errW_some] <;> rfl) | (simp [*, errW_none, errW_some] <;> rfl), by repeat (first | (with_reducible first | exact HB.out | apply below_alloc | apply pw_below_drewN | apply below_drew1 | refine below_set ?_ GE117.out) | exact HB.out)⟩

end Go.Proofs.Ytiebeiloooblpaa.E
end
section
-- written by myprint.py, a program of this session over the kit's print.py
namespace Go.Proofs.Ytiebeiloooblpaa.E
open Go.RowKit Go.Proofs.YtiebeiloooblpaaW.PrintWords Go.Proofs.YtiebeiloooblpaaW.PrintLast Go.Proofs.YtiebeiloooblpaaW.PrintMore
attribute [local go_sem] max2_int min2_int max_two min_two max_three min_three max_four min_four   -- for this text's walks alone
set_option linter.unusedVariables false
set_option linter.unusedSimpArgs false

/-! ### entries_end: function 44 -/
def entries_end.f (a0_0 : Int) (a0_1 : Int) (l0_2 : List (S33)) (a0_3 : Int) : Option (Int) := some (wrap64 (a0_0 + (l0_2.length : Int)))
set_option maxHeartbeats 8000000 in
set_option maxRecDepth 100000 in
theorem entries_end.calls (a0_0 : Int) (a0_1 : Int) (A0_2 : Option Addr) (c0_2 : Nat) (l0_2 : List (S33)) (a0_3 : Int) (r : Int) (w : World) (hr0_2 : Kd.C k33 w A0_2 l0_2.length l0_2) (hc0_2 : l0_2.length ≤ c0_2) (h : entries_end.f a0_0 a0_1 l0_2 a0_3 = some r) :
    Calls Try.prog 44 #[.agg #[.int .i64 a0_0, .int .i64 a0_1, .slice A0_2 l0_2.length c0_2, .int .i64 a0_3]] w fun e w' => e = .returned (.int .i64 r) ∧ Below w.heap.size w w' := by
  have hu26 := Try.underlying26
  have HR0_2 := Aside0.mk hr0_2
  have HC0_2 := Aside0.mk hc0_2
  clear hr0_2 hc0_2
  have HB := Aside0.mk (Below.refl w.heap.size w)
  have H : (some (wrap64 (a0_0 + (l0_2.length : Int)))) = some r := h
  clear h
  obtain rfl := Option.some.inj H
  go_enter Try.func44, Try.ntmps44
  go_wp2_with (first | ((with_reducible refine gate_dst (N := 1) rfl ?_); refine box_event ?hg (N := 1) ?hd (cs := #[.int .i64 a0_0, .int .i64 a0_1, .slice A0_2 l0_2.length c0_2, .int .i64 a0_3]) (t := 26) ?hr ?_; (case hd => rfl); (case hg => rfl); (case hr => first | (go_simp; done) | (go_simp; rfl)); intro gb119 hg w2 hbox hb; have n0_ := Aside0.mk (below_step (by repeat (first | (with_reducible first | exact HB.out | apply below_alloc | apply pw_below_drewN | apply below_drew1) | exact HB.out)) hb); have n1_ := Aside0.mk (hbox); have n2_ := Aside0.mk ((by rw [hg]; exact (below_size (by repeat (first | (with_reducible first | exact HB.out | apply below_alloc | apply pw_below_drewN | apply below_drew1) | exact HB.out))) : w.heap.size ≤ gb119)); have n3_ := Aside0.mk ((by rw [hg]; exact (below_size (by repeat (first | (with_reducible first | exact HB.out | apply below_alloc | apply pw_below_drewN | apply below_drew1) | exact HB.out))) : w.heap.size ≤ gb119)); clear HB; have HB := n0_; have BK119 := n1_; have GW119 := n2_; have GE119 := n3_; clear n0_ n1_ n2_ n3_; clear hb hbox hg; have hcz3_0 : w2.cell? ⟨gb119, 0, none⟩ = some (.int .i64 a0_0) := (blk_cell BK119.out 0).trans rfl; have hcz3_1 : w2.cell? ⟨gb119, 1, none⟩ = some (.int .i64 a0_1) := (blk_cell BK119.out 1).trans rfl; have hcz3_2 : w2.cell? ⟨gb119, 2, none⟩ = some (.slice A0_2 l0_2.length c0_2) := (blk_cell BK119.out 2).trans rfl; have hcz3_3 : w2.cell? ⟨gb119, 3, none⟩ = some (.int .i64 a0_3) := (blk_cell BK119.out 3).trans rfl; have hfz3_0 := blk_frozen BK119.out 0; have hfz3_1 := blk_frozen BK119.out 1; have hfz3_2 := blk_frozen BK119.out 2; have hfz3_3 := blk_frozen BK119.out 3))
  go_ret
  exact ⟨by first | rfl | (simp [errW_none, errW_some] <;> rfl) | (simp [*, errW_none, errW_some] <;> rfl), by repeat (first | (with_reducible first | exact HB.out | apply below_alloc | apply pw_below_drewN | apply below_drew1 | refine below_set ?_ GE119.out) | exact HB.out)⟩

end Go.Proofs.Ytiebeiloooblpaa.E
end
section
/- Steps of a region that draws its order: the kit's steps with their own tactics as default arguments, so that a walk's text stays short. -/
namespace Go.Proofs.YtiebeiloooblpaaST
set_option linter.unusedVariables false
open Go.RowKit Go.Proofs.YtiebeiloooblpaaW.PrintWords Go.Proofs.YtiebeiloooblpaaW.PrintLast
variable {P : Program} {md : Region.Mode} {ops : Array Oper} {Q : Exit → Act → World → Prop} {S : World → Prop} {ds : List Nat}
theorem stepP {T : Bool × List (List Nat × List Nat)} (HT : Aside0 (rtab md ops = T)) (i : Nat) (N : Option Tmp) {oi : Oper} {v : Value} {fuel : Nat} {l l' : Array Bool} {a a' : Act} {w : World}
    (h : wpAnyLast P md ops Q S ds fuel l' a' w)
    (hi : ops[i]? = some oi := by rfl) (hN : oi.dst = N := by rfl)
    (hl : l.setIfInBounds i true = l' := by (simp only [List.setIfInBounds_toArray, List.set_cons_zero, List.set_cons_succ]; rfl))
    (hc : anyT T l.toList l'.toList i = true := by kernel_rfl)
    (hw : Region.wanted oi (yielded ops a.tmps) = true := by rfl)
    (hy : ∀ w, (execOp a.eval oi).run P w = .ok (.value v) w := by (intro w'; go_simp; with_reducible rfl))
    (ha : a.put N v = a' := by (simp only [Act.put, List.setIfInBounds_toArray, List.set_cons_zero, List.set_cons_succ, i64_w, i32_w]; rfl))
    (hQ : ∀ c a w, Q (.panic c) (a.put oi.dst v) w → Q (.panic c) a w := by exact fun _ _ _ h => h) :
    wpAnyLast P md ops Q S ds (fuel + 1) l a w := pure_ l' hi hN (any_of HT.out hc) hQ (Or.inl ⟨hw, hy⟩) ha h
theorem stepU {T : Bool × List (List Nat × List Nat)} (HT : Aside0 (rtab md ops = T)) (i : Nat) (N : Option Tmp) {oi : Oper} {fuel : Nat} {l l' : Array Bool} {a a' : Act} {w : World}
    (h : wpAnyLast P md ops Q S ds fuel l' a' w)
    (hi : ops[i]? = some oi := by rfl) (hN : oi.dst = N := by rfl)
    (hl : l.setIfInBounds i true = l' := by (simp only [List.setIfInBounds_toArray, List.set_cons_zero, List.set_cons_succ]; rfl))
    (hc : anyT T l.toList l'.toList i = true := by kernel_rfl)
    (hw : Region.wanted oi (yielded ops a.tmps) = false := by rfl)
    (ha : a.put N undef = a' := by (simp only [Act.put, List.setIfInBounds_toArray, List.set_cons_zero, List.set_cons_succ, i64_w, i32_w]; rfl))
    (hQ : ∀ c a w, Q (.panic c) (a.put oi.dst undef) w → Q (.panic c) a w := by exact fun _ _ _ h => h) :
    wpAnyLast P md ops Q S ds (fuel + 1) l a w := pure_ l' hi hN (any_of HT.out hc) hQ (Or.inr ⟨hw, rfl⟩) ha h
theorem stepT2 {T : Bool × List (List Nat × List Nat)} {B : List Nat} (HT : Aside0 (rtab md ops = T)) (HW : Aside0 (waitsOk T.2 B = true)) (i : Nat) (N : Option Tmp) {oi : Oper} {v : Value} {fuel : Nat} {l l' : Array Bool} {a a' : Act} {w : World} (hS : S w)
    (h : wpAnyLast P md ops Q S ds fuel l' a' w)
    (hi : ops[i]? = some oi := by rfl) (hN : oi.dst = N := by rfl)
    (hl : l.setIfInBounds i true = l' := by (simp only [List.setIfInBounds_toArray, List.set_cons_zero, List.set_cons_succ]; rfl))
    (hc : takeW T B ds l.toList l'.toList i = true := by kernel_rfl)
    (hw : Region.wanted oi (yielded ops a.tmps) = true := by rfl)
    (hy : ∀ w, S w → (execOp a.eval oi).run P w = .ok (.value v) w := by (rintro w' ⟨s0, s1⟩; go_simp; with_reducible rfl))
    (ha : a.put N v = a' := by (simp only [Act.put, List.setIfInBounds_toArray, List.set_cons_zero, List.set_cons_succ, i64_w, i32_w]; rfl))
    (hQ : ∀ c a w, Q (.panic c) (a.put oi.dst v) w → Q (.panic c) a w := by exact fun _ _ _ h => h) :
    wpAnyLast P md ops Q S ds (fuel + 1) l a w := take_ l' hi hN (take_ofW HT.out HW.out hc) hQ (Or.inl ⟨hw, hy⟩) hS ha h
theorem stepT4 {T : Bool × List (List Nat × List Nat)} {B : List Nat} (HT : Aside0 (rtab md ops = T)) (HW : Aside0 (waitsOk T.2 B = true)) (i : Nat) (N : Option Tmp) {oi : Oper} {v : Value} {fuel : Nat} {l l' : Array Bool} {a a' : Act} {w : World} (hS : S w)
    (h : wpAnyLast P md ops Q S ds fuel l' a' w)
    (hi : ops[i]? = some oi := by rfl) (hN : oi.dst = N := by rfl)
    (hl : l.setIfInBounds i true = l' := by (simp only [List.setIfInBounds_toArray, List.set_cons_zero, List.set_cons_succ]; rfl))
    (hc : takeW T B ds l.toList l'.toList i = true := by kernel_rfl)
    (hw : Region.wanted oi (yielded ops a.tmps) = true := by rfl)
    (hy : ∀ w, S w → (execOp a.eval oi).run P w = .ok (.value v) w := by (rintro w' ⟨s0, s1, s2, s3⟩; go_simp; with_reducible rfl))
    (ha : a.put N v = a' := by (simp only [Act.put, List.setIfInBounds_toArray, List.set_cons_zero, List.set_cons_succ, i64_w, i32_w]; rfl))
    (hQ : ∀ c a w, Q (.panic c) (a.put oi.dst v) w → Q (.panic c) a w := by exact fun _ _ _ h => h) :
    wpAnyLast P md ops Q S ds (fuel + 1) l a w := take_ l' hi hN (take_ofW HT.out HW.out hc) hQ (Or.inl ⟨hw, hy⟩) hS ha h
theorem stepT8 {T : Bool × List (List Nat × List Nat)} {B : List Nat} (HT : Aside0 (rtab md ops = T)) (HW : Aside0 (waitsOk T.2 B = true)) (i : Nat) (N : Option Tmp) {oi : Oper} {v : Value} {fuel : Nat} {l l' : Array Bool} {a a' : Act} {w : World} (hS : S w)
    (h : wpAnyLast P md ops Q S ds fuel l' a' w)
    (hi : ops[i]? = some oi := by rfl) (hN : oi.dst = N := by rfl)
    (hl : l.setIfInBounds i true = l' := by (simp only [List.setIfInBounds_toArray, List.set_cons_zero, List.set_cons_succ]; rfl))
    (hc : takeW T B ds l.toList l'.toList i = true := by kernel_rfl)
    (hw : Region.wanted oi (yielded ops a.tmps) = true := by rfl)
    (hy : ∀ w, S w → (execOp a.eval oi).run P w = .ok (.value v) w := by (rintro w' ⟨s0, s1, s2, s3, s4, s5, s6, s7⟩; go_simp; with_reducible rfl))
    (ha : a.put N v = a' := by (simp only [Act.put, List.setIfInBounds_toArray, List.set_cons_zero, List.set_cons_succ, i64_w, i32_w]; rfl))
    (hQ : ∀ c a w, Q (.panic c) (a.put oi.dst v) w → Q (.panic c) a w := by exact fun _ _ _ h => h) :
    wpAnyLast P md ops Q S ds (fuel + 1) l a w := take_ l' hi hN (take_ofW HT.out HW.out hc) hQ (Or.inl ⟨hw, hy⟩) hS ha h
end Go.Proofs.YtiebeiloooblpaaST
end
section
-- written by myprint.py, a program of this session over the kit's print.py
namespace Go.Proofs.Ytiebeiloooblpaa.E
open Go.Proofs.YtiebeiloooblpaaST
open Go.RowKit Go.Proofs.YtiebeiloooblpaaW.PrintWords Go.Proofs.YtiebeiloooblpaaW.PrintLast Go.Proofs.YtiebeiloooblpaaW.PrintMore
attribute [local go_sem] max2_int min2_int max_two min_two max_three min_three max_four min_four   -- for this text's walks alone
set_option linter.unusedVariables false
set_option linter.unusedSimpArgs false

/-! ### entries_Check: function 30 -/
def entries_Check.f (k : Nat) (a0_0 : Int) (a0_1 : Int) (l0_2 : List (S33)) (a0_3 : Int) : Option (Int) := (entries_isMark.f a0_0 a0_1).bind fun t121 => (if t121 = true then (if (l0_2.length : Int) > 400 then (some 80) else ((entries_rising.f k l0_2 a0_1).bind fun t122 => (if t122 = true then ((entries_end.f a0_0 a0_1 l0_2 a0_3).bind fun t123 => (if t123 > 1000000 then (some 80) else ((entries_end.f a0_0 a0_1 l0_2 a0_3).bind fun t124 => ((entries_within.f a0_3 a0_0 t124).bind fun t125 => (if t125 = true then (some 0) else (some 80)))))) else (some 80)))) else (some 80))
theorem entries_Check.mono : ∀ a0 a1 a2 a3 k, LeO (entries_Check.f k a0 a1 a2 a3) (entries_Check.f (k + 1) a0 a1 a2 a3) := by
  intro a0 a1 a2 a3 k
  unfold entries_Check.f
  repeat' first
      | (with_reducible exact entries_rising.mono _ _ _)
      | (with_reducible exact LeO.refl _)
      | (with_reducible exact LeO.none _)
      | (with_reducible refine LeO.ite ?_ ?_)
      | (with_reducible refine LeO.bind ?_ (fun _ => ?_))
      | exact entries_rising.mono _ _ _
      | exact LeO.none _
      | refine LeO.ite ?_ ?_
      | refine LeO.bind ?_ (fun _ => ?_)
def entries_Check.T1 : Bool × List (List Nat × List Nat) := (true, [([], []), ([0], [0]), ([1], [1]), ([2], [2]), ([3, 2], [3]), ([4], [4]), ([5, 4], [4, 5]), ([6, 4], [4, 6]), ([7, 4], [4, 7]), ([4, 8], [4, 8]), ([9, 4], [9]), ([10], [10]), ([11, 10], [10, 11]), ([10], [10]), ([13, 10], [10, 13]), ([14, 10], [10, 14]), ([12, 15, 10, 10], [10, 12, 15]), ([16, 10], [10, 16]), ([10, 17], [10, 17]), ([18, 16], [18]), ([19], [19]), ([20, 19, 19], [19, 20]), ([21, 19], [19, 21]), ([19, 22], [19, 22]), ([23, 21], [23]), ([24], [24]), ([25, 24], [24, 25]), ([24], [24]), ([27, 24], [24, 27]), ([28, 24], [24, 28]), ([24], [24]), ([30, 24, 24], [24, 30]), ([26, 29, 31, 31, 24], [24, 26, 29, 31]), ([32, 24], [24, 32]), ([24, 33], [24, 33])])
def entries_Check.B1 : List Nat := [0, 1, 3, 7, 15, 31, 63, 127, 255, 511, 1023, 2047, 4095, 2047, 10239, 26623, 65535, 131071, 262143, 524287, 1048575, 2097151, 4194303, 8388607, 16777215, 33554431, 67108863, 33554431, 167772159, 436207615, 33554431, 1107296255, 4294967295, 8589934591, 17179869183]
theorem entries_Check.tab1 : rtab .any (opsOf Try.f30 1) = entries_Check.T1 := by kernel_rfl
theorem entries_Check.bits1 : waitsOk entries_Check.T1.2 entries_Check.B1 = true := by kernel_rfl
set_option maxHeartbeats 8000000 in
set_option maxRecDepth 100000 in
theorem entries_Check.calls (k : Nat) (a0_0 : Int) (a0_1 : Int) (A0_2 : Option Addr) (c0_2 : Nat) (l0_2 : List (S33)) (a0_3 : Int) (r : Int) (w : World) (hr0_2 : Kd.C k33 w A0_2 l0_2.length l0_2) (hc0_2 : l0_2.length ≤ c0_2) (h : entries_Check.f k a0_0 a0_1 l0_2 a0_3 = some r) :
    Calls Try.prog 30 #[.agg #[.int .i64 a0_0, .int .i64 a0_1, .slice A0_2 l0_2.length c0_2, .int .i64 a0_3]] w fun e w' => e = .returned (.int .i64 r) ∧ Below w.heap.size w w' := by
  have hu26 := Try.underlying26
  have hu23 := Try.underlying23
  have HR0_2 := Aside0.mk hr0_2
  have HC0_2 := Aside0.mk hc0_2
  clear hr0_2 hc0_2
  have HB := Aside0.mk (Below.refl w.heap.size w)
  have H : ((entries_isMark.f a0_0 a0_1).bind fun t121 => (if t121 = true then (if (l0_2.length : Int) > 400 then (some 80) else ((entries_rising.f k l0_2 a0_1).bind fun t122 => (if t122 = true then ((entries_end.f a0_0 a0_1 l0_2 a0_3).bind fun t123 => (if t123 > 1000000 then (some 80) else ((entries_end.f a0_0 a0_1 l0_2 a0_3).bind fun t124 => ((entries_within.f a0_3 a0_0 t124).bind fun t125 => (if t125 = true then (some 0) else (some 80)))))) else (some 80)))) else (some 80))) = some r := h
  clear h
  replace H := Option.bind_eq_some_iff.mp H
  obtain ⟨t121, A20, H⟩ := H
  replace H : (if t121 = true then (if (l0_2.length : Int) > 400 then (some 80) else ((entries_rising.f k l0_2 a0_1).bind fun t122 => (if t122 = true then ((entries_end.f a0_0 a0_1 l0_2 a0_3).bind fun t123 => (if t123 > 1000000 then (some 80) else ((entries_end.f a0_0 a0_1 l0_2 a0_3).bind fun t124 => ((entries_within.f a0_3 a0_0 t124).bind fun t125 => (if t125 = true then (some 0) else (some 80)))))) else (some 80)))) else (some 80)) = some r := H
  have A2 := Aside0.mk A20
  clear A20
  by_cases c3 : t121 = true
  focus
    subst c3
    have H1 : (if (l0_2.length : Int) > 400 then (some 80) else ((entries_rising.f k l0_2 a0_1).bind fun t122 => (if t122 = true then ((entries_end.f a0_0 a0_1 l0_2 a0_3).bind fun t123 => (if t123 > 1000000 then (some 80) else ((entries_end.f a0_0 a0_1 l0_2 a0_3).bind fun t124 => ((entries_within.f a0_3 a0_0 t124).bind fun t125 => (if t125 = true then (some 0) else (some 80)))))) else (some 80)))) = some r := by rw [if_pos rfl] at H; exact H
    clear H
    have H := H1
    clear H1
    by_cases c4 : (l0_2.length : Int) > 400
    focus
      rw [if_pos c4] at H
      have c4b0 : decide (400 < (l0_2.length : Int)) = true := decide_eq_true c4
      have c4b1 : decide (400 < l0_2.length) = true := decide_eq_true (by omega)
      clear c4
      obtain rfl := Option.some.inj H
    rotate_left 1
    focus
      rw [if_neg c4] at H
      have c4b0 : decide (400 < (l0_2.length : Int)) = false := decide_eq_false c4
      have c4b1 : decide (400 < l0_2.length) = false := decide_eq_false (by omega)
      clear c4
      replace H := Option.bind_eq_some_iff.mp H
      obtain ⟨t122, A80, H⟩ := H
      replace H : (if t122 = true then ((entries_end.f a0_0 a0_1 l0_2 a0_3).bind fun t123 => (if t123 > 1000000 then (some 80) else ((entries_end.f a0_0 a0_1 l0_2 a0_3).bind fun t124 => ((entries_within.f a0_3 a0_0 t124).bind fun t125 => (if t125 = true then (some 0) else (some 80)))))) else (some 80)) = some r := H
      have A8 := Aside0.mk A80
      clear A80
      by_cases c9 : t122 = true
      focus
        subst c9
        have H1 : ((entries_end.f a0_0 a0_1 l0_2 a0_3).bind fun t123 => (if t123 > 1000000 then (some 80) else ((entries_end.f a0_0 a0_1 l0_2 a0_3).bind fun t124 => ((entries_within.f a0_3 a0_0 t124).bind fun t125 => (if t125 = true then (some 0) else (some 80)))))) = some r := by rw [if_pos rfl] at H; exact H
        clear H
        have H := H1
        clear H1
        replace H := Option.bind_eq_some_iff.mp H
        obtain ⟨t123, A100, H⟩ := H
        replace H : (if t123 > 1000000 then (some 80) else ((entries_end.f a0_0 a0_1 l0_2 a0_3).bind fun t124 => ((entries_within.f a0_3 a0_0 t124).bind fun t125 => (if t125 = true then (some 0) else (some 80))))) = some r := H
        have A10 := Aside0.mk A100
        clear A100
        by_cases c11 : t123 > 1000000
        focus
          rw [if_pos c11] at H
          have c11b0 : decide (1000000 < t123) = true := decide_eq_true c11
          clear c11
          obtain rfl := Option.some.inj H
        rotate_left 1
        focus
          rw [if_neg c11] at H
          have c11b0 : decide (1000000 < t123) = false := decide_eq_false c11
          clear c11
          replace H := Option.bind_eq_some_iff.mp H
          obtain ⟨t124, A170, H⟩ := H
          replace H : ((entries_within.f a0_3 a0_0 t124).bind fun t125 => (if t125 = true then (some 0) else (some 80))) = some r := H
          have A17 := Aside0.mk A170
          clear A170
          replace H := Option.bind_eq_some_iff.mp H
          obtain ⟨t125, A180, H⟩ := H
          replace H : (if t125 = true then (some 0) else (some 80)) = some r := H
          have A18 := Aside0.mk A180
          clear A180
          by_cases c19 : t125 = true
          focus
            subst c19
            have H1 : (some 0) = some r := by rw [if_pos rfl] at H; exact H
            clear H
            have H := H1
            clear H1
            obtain rfl := Option.some.inj H
          rotate_left 1
          focus
            replace c19 := Bool.eq_false_iff.mpr c19
            subst c19
            have H1 : (some 80) = some r := by rw [if_neg (show ¬ (false = true) by decide)] at H; exact H
            clear H
            have H := H1
            clear H1
            obtain rfl := Option.some.inj H
          rotate_left 1
        rotate_left 2
      rotate_left 3
      focus
        replace c9 := Bool.eq_false_iff.mpr c9
        subst c9
        have H1 : (some 80) = some r := by rw [if_neg (show ¬ (false = true) by decide)] at H; exact H
        clear H
        have H := H1
        clear H1
        obtain rfl := Option.some.inj H
      rotate_left 1
    rotate_left 4
  rotate_left 5
  focus
    replace c3 := Bool.eq_false_iff.mpr c3
    subst c3
    have H1 : (some 80) = some r := by rw [if_neg (show ¬ (false = true) by decide)] at H; exact H
    clear H
    have H := H1
    clear H1
    obtain rfl := Option.some.inj H
  rotate_left 1
  all_goals
    go_enter Try.func30, Try.ntmps30
    try go_wp2_with (first | ((with_reducible refine gate_dst (N := 1) rfl ?_); (try (refine gate_guard (by rfl) ?_; dsimp only)); refine box_event ?hg (N := 1) ?hd (cs := #[.int .i64 a0_0, .int .i64 a0_1, .slice A0_2 l0_2.length c0_2, .int .i64 a0_3]) (t := 26) ?hr ?_; (case hd => rfl); (case hg => rfl); (case hr => first | (go_simp; done) | (go_simp; rfl)); intro gb120 hg wx1i0 hbox hb; have n0_ := Aside0.mk (below_step (by repeat (first | (with_reducible first | exact HB.out | apply below_alloc | apply pw_below_drewN | apply below_drew1) | exact HB.out)) hb); have n1_ := Aside0.mk (hbox); have n2_ := Aside0.mk ((by rw [hg]; exact (below_size (by repeat (first | (with_reducible first | exact HB.out | apply below_alloc | apply pw_below_drewN | apply below_drew1) | exact HB.out))) : w.heap.size ≤ gb120)); have n3_ := Aside0.mk ((by rw [hg]; exact (below_size (by repeat (first | (with_reducible first | exact HB.out | apply below_alloc | apply pw_below_drewN | apply below_drew1) | exact HB.out))) : w.heap.size ≤ gb120)); clear HB; have HB := n0_; have BK120 := n1_; have GW120 := n2_; have GE120 := n3_; clear n0_ n1_ n2_ n3_; clear hb hbox hg))
    have n0_ := Aside0.mk (blk_drew BK120.out)
    have n1_ := Aside0.mk (below_drew1 HB.out)
    clear BK120
    clear HB
    have BK120 := n0_
    have HB := n1_
    clear n0_ n1_
    refine start_ (n := 35) (S := fun w' => w'.cell? ⟨gb120, 0, none⟩ = some (.int .i64 a0_0) ∧ w'.cell? ⟨gb120, 1, none⟩ = some (.int .i64 a0_1) ∧ w'.cell? ⟨gb120, 2, none⟩ = some (.slice A0_2 l0_2.length c0_2) ∧ w'.cell? ⟨gb120, 3, none⟩ = some (.int .i64 a0_3)) (ds := []) #[false, false, false, false, false, false, false, false, false, false, false, false, false, false, false, false, false, false, false, false, false, false, false, false, false, false, false, false, false, false, false, false, false, false, false] (by kernel_rfl) rfl rfl ⟨(blk_cell BK120.out 0).trans rfl, (blk_cell BK120.out 1).trans rfl, (blk_cell BK120.out 2).trans rfl, (blk_cell BK120.out 3).trans rfl⟩ (fun hHeld => ?_); refine with_tabW entries_Check.tab1 entries_Check.bits1 (fun HT_ HW_ => ?_)
    generalize wx1i0.drew = wyi0 at BK120 HB hHeld ⊢
    refine stepP HT_ 0 (some 3) ?_
    refine stepT4 HT_ HW_ 1 (some 4) hHeld ?_
    refine one_ (i := 2) (N := some 5) #[true, true, true, false, false, false, false, false, false, false, false, false, false, false, false, false, false, false, false, false, false, false, false, false, false, false, false, false, false, false, false, false, false, false, false] rfl rfl (one_of HT_.out (by kernel_rfl)) (by decide) (fun K hK => ?_)
    refine goes_ Try.func41 (by kernel_rfl) rfl #[.agg #[.int .i64 a0_0, .int .i64 a0_1]] (by rfl) rfl rfl (by (try simp only [List.map_toArray, List.map_cons, List.map_nil]); first | done | rfl | (simp only [List.length_drop, List.length_take]; rfl)) ?_
    with_reducible refine (entries_isMark.calls a0_0 a0_1 _ _ A2.out).mono ?_
    rintro e wyi1 ⟨rfl, hb⟩
    refine ⟨_, rfl, ?_⟩
    have n0_ := Aside0.mk (blk_below (g := gb120) (o := .cells #[.int .i64 a0_0, .int .i64 a0_1, .slice A0_2 l0_2.length c0_2, .int .i64 a0_3] 26 (0, 0)) (by (with_reducible repeat (first | refine blk_drewN ?_ _ | refine blk_drew ?_ | refine blk_alloc ?_ _)); exact BK120.out) hb)
    have n1_ := Aside0.mk (below_step (by repeat (first | (with_reducible first | exact HB.out | apply below_alloc | apply pw_below_drewN | apply below_drew1 | refine below_set ?_ GE120.out) | exact HB.out)) hb)
    clear BK120
    clear HB
    have BK120 := n0_
    have HB := n1_
    clear n0_ n1_
    (try clear hb)
    (try clear hb2)
    (try clear hk)
    (try clear hi)
    refine hK.out _ _ ⟨(blk_cell BK120.out 0).trans rfl, (blk_cell BK120.out 1).trans rfl, (blk_cell BK120.out 2).trans rfl, (blk_cell BK120.out 3).trans rfl⟩ (fun hHeld => ?_)
    clear hK K
    refine norm_ (a' := ?_) ?_ ?_
    rotate_left
    · show Act.put _ (some 5) _ = _
      simp only [Act.put, List.setIfInBounds_toArray, List.set_cons_zero, List.set_cons_succ, i64_w, i32_w]
      rfl
    refine stepP HT_ 3 (some 6) ?_
    refine stepP HT_ 4 (some 7) ?_
  iterate 5
    focus
      refine stepP HT_ 5 (some 8) ?_
      refine stepT4 HT_ HW_ 6 (some 9) hHeld ?_
      refine stepP HT_ 7 (some 10) ?_
      refine stepP HT_ 8 (some 11) ?_
      refine stepP HT_ 9 (some 12) ?_
      refine stepP HT_ 10 (some 13) ?_
    rotate_left
  focus
    refine stepU HT_ 5 (some 8) ?_
    refine stepU HT_ 6 (some 9) ?_
    refine stepU HT_ 7 (some 10) ?_
    refine stepU HT_ 8 (some 11) ?_
    refine stepP HT_ 9 (some 12) ?_
    refine stepP HT_ 10 (some 13) ?_
    refine stepU HT_ 11 (some 14) ?_
    refine stepU HT_ 12 (some 15) ?_
    refine stepU HT_ 13 (some 16) ?_
    refine stepU HT_ 14 (some 17) ?_
    refine stepU HT_ 15 (some 18) ?_
    refine stepU HT_ 16 (some 19) ?_
    refine stepU HT_ 17 (some 20) ?_
    refine stepP HT_ 18 (some 21) ?_
    refine stepP HT_ 19 (some 22) ?_
    refine stepU HT_ 20 (some 23) ?_
    refine stepU HT_ 21 (some 24) ?_
    refine stepU HT_ 22 (some 25) ?_
    refine stepP HT_ 23 (some 26) ?_
    refine stepP HT_ 24 (some 27) ?_
    refine stepU HT_ 25 (some 28) ?_
    refine stepU HT_ 26 (some 29) ?_
    refine stepU HT_ 27 (some 30) ?_
    refine stepU HT_ 28 (some 31) ?_
    refine stepU HT_ 29 (some 32) ?_
    refine stepU HT_ 30 (some 33) ?_
    refine stepU HT_ 31 (some 34) ?_
    refine stepU HT_ 32 (some 35) ?_
    refine stepU HT_ 33 (some 36) ?_
    refine stepP HT_ 34 (some 37) ?_
    refine done_ (done_of HT_.out (by kernel_rfl)) ?_
    try go_wp2
    go_ret
    exact ⟨by first | rfl | (simp [errW_none, errW_some] <;> rfl) | (simp [*, errW_none, errW_some] <;> rfl), by repeat (first | (with_reducible first | exact HB.out | apply below_alloc | apply pw_below_drewN | apply below_drew1 | refine below_set ?_ GE120.out) | exact HB.out)⟩
  focus
    refine stepU HT_ 11 (some 14) ?_
    refine stepU HT_ 12 (some 15) ?_
    refine stepU HT_ 13 (some 16) ?_
    refine stepU HT_ 14 (some 17) ?_
    refine stepU HT_ 15 (some 18) ?_
    refine stepU HT_ 16 (some 19) ?_
    refine stepU HT_ 17 (some 20) ?_
    refine stepP HT_ 18 (some 21) ?_
    refine stepP HT_ 19 (some 22) ?_
    refine stepU HT_ 20 (some 23) ?_
    refine stepU HT_ 21 (some 24) ?_
    refine stepU HT_ 22 (some 25) ?_
    refine stepP HT_ 23 (some 26) ?_
    refine stepP HT_ 24 (some 27) ?_
    refine stepU HT_ 25 (some 28) ?_
    refine stepU HT_ 26 (some 29) ?_
    refine stepU HT_ 27 (some 30) ?_
    refine stepU HT_ 28 (some 31) ?_
    refine stepU HT_ 29 (some 32) ?_
    refine stepU HT_ 30 (some 33) ?_
    refine stepU HT_ 31 (some 34) ?_
    refine stepU HT_ 32 (some 35) ?_
    refine stepU HT_ 33 (some 36) ?_
    refine stepP HT_ 34 (some 37) ?_
    refine done_ (done_of HT_.out (by kernel_rfl)) ?_
    try go_wp2
    go_ret
    exact ⟨by first | rfl | (simp [errW_none, errW_some] <;> rfl) | (simp [*, errW_none, errW_some] <;> rfl), by repeat (first | (with_reducible first | exact HB.out | apply below_alloc | apply pw_below_drewN | apply below_drew1 | refine below_set ?_ GE120.out) | exact HB.out)⟩
  iterate 4
    focus
      refine stepP HT_ 11 (some 14) ?_
      refine stepP HT_ 13 (some 16) ?_
      refine stepP HT_ 14 (some 17) ?_
      refine stepT4 HT_ HW_ 12 (some 15) hHeld ?_
      refine stepT4 HT_ HW_ 15 (some 18) hHeld ?_
      refine one_ (i := 16) (N := some 19) #[true, true, true, true, true, true, true, true, true, true, true, true, true, true, true, true, true, false, false, false, false, false, false, false, false, false, false, false, false, false, false, false, false, false, false] rfl rfl (one_of HT_.out (by kernel_rfl)) (by decide) (fun K hK => ?_)
      refine goes_ Try.func43 (by kernel_rfl) rfl #[.slice A0_2 l0_2.length c0_2, .int .i64 a0_1] (by rfl) rfl rfl (by (try simp only [List.map_toArray, List.map_cons, List.map_nil]); first | done | rfl | (simp only [List.length_drop, List.length_take]; rfl)) ?_
      with_reducible refine (entries_rising.calls k _ _ l0_2 a0_1 _ _ ?side1 ?side2 A8.out).mono ?_
      (case side1 => repeat (first | exact (Kd.C_below HR0_2.out HB.out) | (with_reducible refine Kd.C_alloc ?_ _) | (with_reducible refine Kd.C_drewN ?_ _) | (with_reducible refine Kd.C_drew ?_)))
      (case side2 => exact HC0_2.out)
      rintro e wyi2 ⟨rfl, hb⟩
      refine ⟨_, rfl, ?_⟩
      have n0_ := Aside0.mk (blk_below (g := gb120) (o := .cells #[.int .i64 a0_0, .int .i64 a0_1, .slice A0_2 l0_2.length c0_2, .int .i64 a0_3] 26 (0, 0)) (by (with_reducible repeat (first | refine blk_drewN ?_ _ | refine blk_drew ?_ | refine blk_alloc ?_ _)); exact BK120.out) hb)
      have n1_ := Aside0.mk (below_step (by repeat (first | (with_reducible first | exact HB.out | apply below_alloc | apply pw_below_drewN | apply below_drew1 | refine below_set ?_ GE120.out) | exact HB.out)) hb)
      clear BK120
      clear HB
      have BK120 := n0_
      have HB := n1_
      clear n0_ n1_
      (try clear hb)
      (try clear hb2)
      (try clear hk)
      (try clear hi)
      refine hK.out _ _ ⟨(blk_cell BK120.out 0).trans rfl, (blk_cell BK120.out 1).trans rfl, (blk_cell BK120.out 2).trans rfl, (blk_cell BK120.out 3).trans rfl⟩ (fun hHeld => ?_)
      clear hK K
      refine norm_ (a' := ?_) ?_ ?_
      rotate_left
      · show Act.put _ (some 19) _ = _
        simp only [Act.put, List.setIfInBounds_toArray, List.set_cons_zero, List.set_cons_succ, i64_w, i32_w]
        rfl
      refine stepP HT_ 17 (some 20) ?_
      refine stepP HT_ 18 (some 21) ?_
      refine stepP HT_ 19 (some 22) ?_
    rotate_left
  iterate 3
    focus
      refine stepT4 HT_ HW_ 20 (some 23) hHeld ?_
      refine one_ (i := 21) (N := some 24) #[true, true, true, true, true, true, true, true, true, true, true, true, true, true, true, true, true, true, true, true, true, true, false, false, false, false, false, false, false, false, false, false, false, false, false] rfl rfl (one_of HT_.out (by kernel_rfl)) (by decide) (fun K hK => ?_)
      refine goes_ Try.func44 (by kernel_rfl) rfl #[.agg #[.int .i64 a0_0, .int .i64 a0_1, .slice A0_2 l0_2.length c0_2, .int .i64 a0_3]] (by rfl) rfl rfl (by (try simp only [List.map_toArray, List.map_cons, List.map_nil]); first | done | rfl | (simp only [List.length_drop, List.length_take]; rfl)) ?_
      with_reducible refine (entries_end.calls a0_0 a0_1 _ _ l0_2 a0_3 t123 _ ?side1 ?side2 A10.out).mono ?_
      (case side1 => repeat (first | exact (Kd.C_below HR0_2.out HB.out) | (with_reducible refine Kd.C_alloc ?_ _) | (with_reducible refine Kd.C_drewN ?_ _) | (with_reducible refine Kd.C_drew ?_)))
      (case side2 => exact HC0_2.out)
      rintro e wyi3 ⟨rfl, hb⟩
      refine ⟨_, rfl, ?_⟩
      have n0_ := Aside0.mk (blk_below (g := gb120) (o := .cells #[.int .i64 a0_0, .int .i64 a0_1, .slice A0_2 l0_2.length c0_2, .int .i64 a0_3] 26 (0, 0)) (by (with_reducible repeat (first | refine blk_drewN ?_ _ | refine blk_drew ?_ | refine blk_alloc ?_ _)); exact BK120.out) hb)
      have n1_ := Aside0.mk (below_step (by repeat (first | (with_reducible first | exact HB.out | apply below_alloc | apply pw_below_drewN | apply below_drew1 | refine below_set ?_ GE120.out) | exact HB.out)) hb)
      clear BK120
      clear HB
      have BK120 := n0_
      have HB := n1_
      clear n0_ n1_
      (try clear hb)
      (try clear hb2)
      (try clear hk)
      (try clear hi)
      refine hK.out _ _ ⟨(blk_cell BK120.out 0).trans rfl, (blk_cell BK120.out 1).trans rfl, (blk_cell BK120.out 2).trans rfl, (blk_cell BK120.out 3).trans rfl⟩ (fun hHeld => ?_)
      clear hK K
      refine norm_ (a' := ?_) ?_ ?_
      rotate_left
      · show Act.put _ (some 24) _ = _
        simp only [Act.put, List.setIfInBounds_toArray, List.set_cons_zero, List.set_cons_succ, i64_w, i32_w]
        rfl
      refine stepP HT_ 22 (some 25) ?_
      refine stepP HT_ 23 (some 26) ?_
      refine stepP HT_ 24 (some 27) ?_
    rotate_left
  focus
    refine stepU HT_ 20 (some 23) ?_
    refine stepU HT_ 21 (some 24) ?_
    refine stepU HT_ 22 (some 25) ?_
    refine stepP HT_ 23 (some 26) ?_
    refine stepP HT_ 24 (some 27) ?_
    refine stepU HT_ 25 (some 28) ?_
    refine stepU HT_ 26 (some 29) ?_
    refine stepU HT_ 27 (some 30) ?_
    refine stepU HT_ 28 (some 31) ?_
    refine stepU HT_ 29 (some 32) ?_
    refine stepU HT_ 30 (some 33) ?_
    refine stepU HT_ 31 (some 34) ?_
    refine stepU HT_ 32 (some 35) ?_
    refine stepU HT_ 33 (some 36) ?_
    refine stepP HT_ 34 (some 37) ?_
    refine done_ (done_of HT_.out (by kernel_rfl)) ?_
    try go_wp2
    go_ret
    exact ⟨by first | rfl | (simp [errW_none, errW_some] <;> rfl) | (simp [*, errW_none, errW_some] <;> rfl), by repeat (first | (with_reducible first | exact HB.out | apply below_alloc | apply pw_below_drewN | apply below_drew1 | refine below_set ?_ GE120.out) | exact HB.out)⟩
  focus
    refine stepU HT_ 25 (some 28) ?_
    refine stepU HT_ 26 (some 29) ?_
    refine stepU HT_ 27 (some 30) ?_
    refine stepU HT_ 28 (some 31) ?_
    refine stepU HT_ 29 (some 32) ?_
    refine stepU HT_ 30 (some 33) ?_
    refine stepU HT_ 31 (some 34) ?_
    refine stepU HT_ 32 (some 35) ?_
    refine stepU HT_ 33 (some 36) ?_
    refine stepP HT_ 34 (some 37) ?_
    refine done_ (done_of HT_.out (by kernel_rfl)) ?_
    try go_wp2
    go_ret
    exact ⟨by first | rfl | (simp [errW_none, errW_some] <;> rfl) | (simp [*, errW_none, errW_some] <;> rfl), by repeat (first | (with_reducible first | exact HB.out | apply below_alloc | apply pw_below_drewN | apply below_drew1 | refine below_set ?_ GE120.out) | exact HB.out)⟩
  iterate 2
    focus
      refine stepP HT_ 25 (some 28) ?_
      refine stepP HT_ 27 (some 30) ?_
      refine stepP HT_ 28 (some 31) ?_
      refine stepT4 HT_ HW_ 26 (some 29) hHeld ?_
      refine stepT4 HT_ HW_ 29 (some 32) hHeld ?_
      refine stepT4 HT_ HW_ 30 (some 33) hHeld ?_
      refine one_ (i := 31) (N := some 34) #[true, true, true, true, true, true, true, true, true, true, true, true, true, true, true, true, true, true, true, true, true, true, true, true, true, true, true, true, true, true, true, true, false, false, false] rfl rfl (one_of HT_.out (by kernel_rfl)) (by decide) (fun K hK => ?_)
      refine goes_ Try.func44 (by kernel_rfl) rfl #[.agg #[.int .i64 a0_0, .int .i64 a0_1, .slice A0_2 l0_2.length c0_2, .int .i64 a0_3]] (by rfl) rfl rfl (by (try simp only [List.map_toArray, List.map_cons, List.map_nil]); first | done | rfl | (simp only [List.length_drop, List.length_take]; rfl)) ?_
      with_reducible refine (entries_end.calls a0_0 a0_1 _ _ l0_2 a0_3 t124 _ ?side1 ?side2 A17.out).mono ?_
      (case side1 => repeat (first | exact (Kd.C_below HR0_2.out HB.out) | (with_reducible refine Kd.C_alloc ?_ _) | (with_reducible refine Kd.C_drewN ?_ _) | (with_reducible refine Kd.C_drew ?_)))
      (case side2 => exact HC0_2.out)
      rintro e wyi4 ⟨rfl, hb⟩
      refine ⟨_, rfl, ?_⟩
      have n0_ := Aside0.mk (blk_below (g := gb120) (o := .cells #[.int .i64 a0_0, .int .i64 a0_1, .slice A0_2 l0_2.length c0_2, .int .i64 a0_3] 26 (0, 0)) (by (with_reducible repeat (first | refine blk_drewN ?_ _ | refine blk_drew ?_ | refine blk_alloc ?_ _)); exact BK120.out) hb)
      have n1_ := Aside0.mk (below_step (by repeat (first | (with_reducible first | exact HB.out | apply below_alloc | apply pw_below_drewN | apply below_drew1 | refine below_set ?_ GE120.out) | exact HB.out)) hb)
      clear BK120
      clear HB
      have BK120 := n0_
      have HB := n1_
      clear n0_ n1_
      (try clear hb)
      (try clear hb2)
      (try clear hk)
      (try clear hi)
      refine hK.out _ _ ⟨(blk_cell BK120.out 0).trans rfl, (blk_cell BK120.out 1).trans rfl, (blk_cell BK120.out 2).trans rfl, (blk_cell BK120.out 3).trans rfl⟩ (fun hHeld => ?_)
      clear hK K
      refine norm_ (a' := ?_) ?_ ?_
      rotate_left
      · show Act.put _ (some 34) _ = _
        simp only [Act.put, List.setIfInBounds_toArray, List.set_cons_zero, List.set_cons_succ, i64_w, i32_w]
        rfl
      refine one_ (i := 32) (N := some 35) #[true, true, true, true, true, true, true, true, true, true, true, true, true, true, true, true, true, true, true, true, true, true, true, true, true, true, true, true, true, true, true, true, true, false, false] rfl rfl (one_of HT_.out (by kernel_rfl)) (by decide) (fun K hK => ?_)
      refine goes_ Try.func42 (by kernel_rfl) rfl #[.int .i64 a0_3, .int .i64 a0_0, .int .i64 t124] (by rfl) rfl rfl (by (try simp only [List.map_toArray, List.map_cons, List.map_nil]); first | done | rfl | (simp only [List.length_drop, List.length_take]; rfl)) ?_
      with_reducible refine (entries_within.calls a0_3 a0_0 t124 _ _ A18.out).mono ?_
      rintro e w' ⟨rfl, ⟨nd, rfl⟩⟩
      refine ⟨_, rfl, ?_⟩
      refine hK.out _ _ ⟨(blk_cell BK120.out 0).trans rfl, (blk_cell BK120.out 1).trans rfl, (blk_cell BK120.out 2).trans rfl, (blk_cell BK120.out 3).trans rfl⟩ (fun hHeld => ?_)
      clear hK K
      refine norm_ (a' := ?_) ?_ ?_
      rotate_left
      · show Act.put _ (some 35) _ = _
        simp only [Act.put, List.setIfInBounds_toArray, List.set_cons_zero, List.set_cons_succ, i64_w, i32_w]
        rfl
      refine stepP HT_ 33 (some 36) ?_
      refine stepP HT_ 34 (some 37) ?_
      refine done_ (done_of HT_.out (by kernel_rfl)) ?_
      try go_wp2
      go_ret
      exact ⟨by first | rfl | (simp [errW_none, errW_some] <;> rfl) | (simp [*, errW_none, errW_some] <;> rfl), by repeat (first | (with_reducible first | exact HB.out | apply below_alloc | apply pw_below_drewN | apply below_drew1 | refine below_set ?_ GE120.out) | exact HB.out)⟩

end Go.Proofs.Ytiebeiloooblpaa.E
end
section
-- written by myprint.py, a program of this session over the kit's print.py
namespace Go.Proofs.Ytiebeiloooblpaa.E
open Go.Proofs.YtiebeiloooblpaaST
open Go.RowKit Go.Proofs.YtiebeiloooblpaaW.PrintWords Go.Proofs.YtiebeiloooblpaaW.PrintLast Go.Proofs.YtiebeiloooblpaaW.PrintMore
attribute [local go_sem] max2_int min2_int max_two min_two max_three min_three max_four min_four   -- for this text's walks alone
set_option linter.unusedVariables false
set_option linter.unusedSimpArgs false

/-! ### entries_TermAt: function 27 -/
def entries_TermAt.j0 : Nat → Int → Bool → Int → Int → List (S33) → Int → Option (Int × Bool)
  | 0, _, _, _, _, _, _ => none
  | k + 1, x1, x6, x127000, x127001, x127002, x127003 => if x6 = true then (some (0, false)) else (if x1 = x127000 then (some (x127001, true)) else (if 0 ≤ (wrap64 ((wrap64 (x1 - x127000)) - 1)) then (if (wrap64 ((wrap64 (x1 - x127000)) - 1)) < (x127002.length : Int) then (some ((rd_T33 x127002 (wrap64 ((wrap64 (x1 - x127000)) - 1))).f0, true)) else (none)) else (none)))
def entries_TermAt.f (k : Nat) (a0_0 : Int) (a0_1 : Int) (l0_2 : List (S33)) (a0_3 : Int) (a1 : Int) : Option (Int × Bool) := (entries_Check.f k a0_0 a0_1 l0_2 a0_3).bind fun t127 => (if t127 = 0 then ((entries_end.f a0_0 a0_1 l0_2 a0_3).bind fun t128 => ((entries_within.f a1 a0_0 t128).bind fun t129 => (entries_TermAt.j0 k a1 (!t129) a0_0 a0_1 l0_2 a0_3))) else (entries_TermAt.j0 k a1 true a0_0 a0_1 l0_2 a0_3))
theorem entries_TermAt.mono_l : ∀ k, (∀ y0 y1 y2 y3 y4 y5, LeO (entries_TermAt.j0 k y0 y1 y2 y3 y4 y5) (entries_TermAt.j0 (k + 1) y0 y1 y2 y3 y4 y5))
  | 0 => fun _ _ _ _ _ _ r h => by simp [entries_TermAt.j0] at h
  | k + 1 => by
    have ih0 := entries_TermAt.mono_l k
    · intro y0 y1 y2 y3 y4 y5
      unfold entries_TermAt.j0
      repeat' first
      | (with_reducible exact ih0 _ _ _ _ _ _)
      | (with_reducible exact entries_Check.mono _ _ _ _ _)
      | (with_reducible exact LeO.refl _)
      | (with_reducible exact LeO.none _)
      | (with_reducible refine LeO.ite ?_ ?_)
      | (with_reducible refine LeO.bind ?_ (fun _ => ?_))
      | exact ih0 _ _ _ _ _ _
      | exact entries_Check.mono _ _ _ _ _
      | exact LeO.none _
      | refine LeO.ite ?_ ?_
      | refine LeO.bind ?_ (fun _ => ?_)
theorem entries_TermAt.mono : ∀ a0 a1 a2 a3 a4 k, LeO (entries_TermAt.f k a0 a1 a2 a3 a4) (entries_TermAt.f (k + 1) a0 a1 a2 a3 a4) := by
  intro a0 a1 a2 a3 a4 k
  have ih0 := entries_TermAt.mono_l k
  unfold entries_TermAt.f
  repeat' first
      | (with_reducible exact ih0 _ _ _ _ _ _)
      | (with_reducible exact entries_Check.mono _ _ _ _ _)
      | (with_reducible exact LeO.refl _)
      | (with_reducible exact LeO.none _)
      | (with_reducible refine LeO.ite ?_ ?_)
      | (with_reducible refine LeO.bind ?_ (fun _ => ?_))
      | exact ih0 _ _ _ _ _ _
      | exact entries_Check.mono _ _ _ _ _
      | exact LeO.none _
      | refine LeO.ite ?_ ?_
      | refine LeO.bind ?_ (fun _ => ?_)
def entries_TermAt.T1 : Bool × List (List Nat × List Nat) := (true, [([], []), ([0], [0]), ([1], [1]), ([2, 1], [2]), ([3], [3]), ([3], [3]), ([5, 3], [3, 5]), ([6, 3], [3, 6]), ([3], [3]), ([8, 3, 3], [3, 8]), ([4, 7, 9, 9, 3], [3, 4, 7, 9]), ([10, 3], [3, 10]), ([3, 11], [3, 11]), ([12, 10], [12])])
def entries_TermAt.B1 : List Nat := [0, 1, 3, 7, 15, 15, 47, 111, 15, 271, 1023, 2047, 4095, 8191]
theorem entries_TermAt.tab1 : rtab .any (opsOf Try.f27 1) = entries_TermAt.T1 := by kernel_rfl
theorem entries_TermAt.bits1 : waitsOk entries_TermAt.T1.2 entries_TermAt.B1 = true := by kernel_rfl
set_option maxHeartbeats 8000000 in
set_option maxRecDepth 100000 in
theorem entries_TermAt.calls (k : Nat) (a0_0 : Int) (a0_1 : Int) (A0_2 : Option Addr) (c0_2 : Nat) (l0_2 : List (S33)) (a0_3 : Int) (a1 : Int) (r1 : Int) (r2 : Bool) (w : World) (hr0_2 : Kd.C k33 w A0_2 l0_2.length l0_2) (hc0_2 : l0_2.length ≤ c0_2) (h : entries_TermAt.f k a0_0 a0_1 l0_2 a0_3 a1 = some (r1, r2)) :
    Calls Try.prog 27 #[.agg #[.int .i64 a0_0, .int .i64 a0_1, .slice A0_2 l0_2.length c0_2, .int .i64 a0_3], .int .i64 a1] w fun e w' => e = .returned (.tuple #[.int .i64 r1, .bool r2]) ∧ Below w.heap.size w w' := by
  have hu26 := Try.underlying26
  have HR0_2 := Aside0.mk hr0_2
  have HC0_2 := Aside0.mk hc0_2
  clear hr0_2 hc0_2
  have HB := Aside0.mk (Below.refl w.heap.size w)
  have H : ((entries_Check.f k a0_0 a0_1 l0_2 a0_3).bind fun t127 => (if t127 = 0 then ((entries_end.f a0_0 a0_1 l0_2 a0_3).bind fun t128 => ((entries_within.f a1 a0_0 t128).bind fun t129 => (entries_TermAt.j0 k a1 (!t129) a0_0 a0_1 l0_2 a0_3))) else (entries_TermAt.j0 k a1 true a0_0 a0_1 l0_2 a0_3))) = some (r1, r2) := h
  clear h
  have HC3 := Aside0.mk H
  clear H
  go_enter Try.func27, Try.ntmps27
  go_upto_region 1 with (first | ((with_reducible refine gate_dst (N := 2) rfl ?_); refine box_event ?hg (N := 2) ?hd (cs := #[.int .i64 a0_0, .int .i64 a0_1, .slice A0_2 l0_2.length c0_2, .int .i64 a0_3]) (t := 26) ?hr ?_; (case hd => rfl); (case hg => rfl); (case hr => first | (go_simp; done) | (go_simp; rfl)); intro gb126 hg w4 hbox hb; have n0_ := Aside0.mk (below_step (by repeat (first | (with_reducible first | exact HB.out | apply below_alloc | apply pw_below_drewN | apply below_drew1) | exact HB.out)) hb); have n1_ := Aside0.mk (hbox); have n2_ := Aside0.mk ((by rw [hg]; exact (below_size (by repeat (first | (with_reducible first | exact HB.out | apply below_alloc | apply pw_below_drewN | apply below_drew1) | exact HB.out))) : w.heap.size ≤ gb126)); have n3_ := Aside0.mk ((by rw [hg]; exact (below_size (by repeat (first | (with_reducible first | exact HB.out | apply below_alloc | apply pw_below_drewN | apply below_drew1) | exact HB.out))) : w.heap.size ≤ gb126)); clear HB; have HB := n0_; have BK126 := n1_; have GW126 := n2_; have GE126 := n3_; clear n0_ n1_ n2_ n3_; clear hb hbox hg))
  (try simp only [Act.put, List.setIfInBounds_toArray, List.set_cons_zero, List.set_cons_succ])
  go_cut [6] (fun v6 wc => ∃ (kq : Nat) (x6_2 : Bool), v6 = .bool x6_2 ∧ Aside0 (entries_TermAt.j0 kq a1 x6_2 a0_0 a0_1 l0_2 a0_3 = some (r1, r2)) ∧ Aside0 (kq ≤ k) ∧ Aside0 (wc.heap[gb126]? = some (.cells #[.int .i64 a0_0, .int .i64 a0_1, (.slice A0_2 l0_2.length c0_2), .int .i64 a0_3] 26 (0, 0))) ∧ Aside0 (Below w.heap.size w wc))
  case first =>
    have H := HC3.out
    clear HC3
    replace H := Option.bind_eq_some_iff.mp H
    obtain ⟨t127, A50, H⟩ := H
    replace H : (if t127 = 0 then ((entries_end.f a0_0 a0_1 l0_2 a0_3).bind fun t128 => ((entries_within.f a1 a0_0 t128).bind fun t129 => (entries_TermAt.j0 k a1 (!t129) a0_0 a0_1 l0_2 a0_3))) else (entries_TermAt.j0 k a1 true a0_0 a0_1 l0_2 a0_3)) = some (r1, r2) := H
    have A5 := Aside0.mk A50
    clear A50
    by_cases c6 : t127 = 0
    focus
      rw [if_pos c6] at H
      have c6b0 : (t127 == 0) = true := beq_iff_eq.mpr c6
      have c6b1 : (t127 != 0) = false := bne_eq_false_iff_eq.mpr c6
      clear c6
      (first | rw [c6b0] | (simp only [i64_w, i32_w]; rw [c6b0]) | skip)
      replace H := Option.bind_eq_some_iff.mp H
      obtain ⟨t128, A70, H⟩ := H
      replace H : ((entries_within.f a1 a0_0 t128).bind fun t129 => (entries_TermAt.j0 k a1 (!t129) a0_0 a0_1 l0_2 a0_3)) = some (r1, r2) := H
      have A7 := Aside0.mk A70
      clear A70
      replace H := Option.bind_eq_some_iff.mp H
      obtain ⟨t129, A80, H⟩ := H
      replace H : (entries_TermAt.j0 k a1 (!t129) a0_0 a0_1 l0_2 a0_3) = some (r1, r2) := H
      have A8 := Aside0.mk A80
      clear A80
      have H' := Aside0.mk H
      clear H
    rotate_left 1
    focus
      rw [if_neg c6] at H
      have c6b0 : (t127 == 0) = false := beq_eq_false_iff_ne.mpr c6
      have c6b1 : (t127 != 0) = true := bne_iff_ne.mpr c6
      (first | rw [c6b0] | (simp only [i64_w, i32_w]; rw [c6b0]) | skip)
      have H' := Aside0.mk H
      clear H
    rotate_left 1
    all_goals
      try go_wp2
      have n0_ := Aside0.mk (blk_drew BK126.out)
      have n1_ := Aside0.mk (below_drew1 HB.out)
      clear BK126
      clear HB
      have BK126 := n0_
      have HB := n1_
      clear n0_ n1_
      refine start_ (n := 14) (S := fun w' => w'.cell? ⟨gb126, 0, none⟩ = some (.int .i64 a0_0) ∧ w'.cell? ⟨gb126, 1, none⟩ = some (.int .i64 a0_1) ∧ w'.cell? ⟨gb126, 2, none⟩ = some (.slice A0_2 l0_2.length c0_2) ∧ w'.cell? ⟨gb126, 3, none⟩ = some (.int .i64 a0_3)) (ds := []) #[false, false, false, false, false, false, false, false, false, false, false, false, false, false] (by kernel_rfl) rfl rfl ⟨(blk_cell BK126.out 0).trans rfl, (blk_cell BK126.out 1).trans rfl, (blk_cell BK126.out 2).trans rfl, (blk_cell BK126.out 3).trans rfl⟩ (fun hHeld => ?_); refine with_tabW entries_TermAt.tab1 entries_TermAt.bits1 (fun HT_ HW_ => ?_)
      generalize w4.drew = wyi0 at BK126 HB hHeld ⊢
      refine stepT4 HT_ HW_ 0 (some 7) hHeld ?_
      refine one_ (i := 1) (N := some 8) #[true, true, false, false, false, false, false, false, false, false, false, false, false, false] rfl rfl (one_of HT_.out (by kernel_rfl)) (by decide) (fun K hK => ?_)
      refine goes_ Try.func30 (by kernel_rfl) rfl #[.agg #[.int .i64 a0_0, .int .i64 a0_1, .slice A0_2 l0_2.length c0_2, .int .i64 a0_3]] (by rfl) rfl rfl (by (try simp only [List.map_toArray, List.map_cons, List.map_nil]); first | done | rfl | (simp only [List.length_drop, List.length_take]; rfl)) ?_
      with_reducible refine (entries_Check.calls k a0_0 a0_1 _ _ l0_2 a0_3 t127 _ ?side1 ?side2 A5.out).mono ?_
      (case side1 => repeat (first | exact (Kd.C_below HR0_2.out HB.out) | (with_reducible refine Kd.C_alloc ?_ _) | (with_reducible refine Kd.C_drewN ?_ _) | (with_reducible refine Kd.C_drew ?_)))
      (case side2 => exact HC0_2.out)
      rintro e wyi1 ⟨rfl, hb⟩
      refine ⟨_, rfl, ?_⟩
      have n0_ := Aside0.mk (blk_below (g := gb126) (o := .cells #[.int .i64 a0_0, .int .i64 a0_1, .slice A0_2 l0_2.length c0_2, .int .i64 a0_3] 26 (0, 0)) (by (with_reducible repeat (first | refine blk_drewN ?_ _ | refine blk_drew ?_ | refine blk_alloc ?_ _)); exact BK126.out) hb)
      have n1_ := Aside0.mk (below_step (by repeat (first | (with_reducible first | exact HB.out | apply below_alloc | apply pw_below_drewN | apply below_drew1 | refine below_set ?_ GE126.out) | exact HB.out)) hb)
      clear BK126
      clear HB
      have BK126 := n0_
      have HB := n1_
      clear n0_ n1_
      (try clear hb)
      (try clear hb2)
      (try clear hk)
      (try clear hi)
      refine hK.out _ _ ⟨(blk_cell BK126.out 0).trans rfl, (blk_cell BK126.out 1).trans rfl, (blk_cell BK126.out 2).trans rfl, (blk_cell BK126.out 3).trans rfl⟩ (fun hHeld => ?_)
      clear hK K
      refine norm_ (a' := ?_) ?_ ?_
      rotate_left
      · show Act.put _ (some 8) _ = _
        simp only [Act.put, List.setIfInBounds_toArray, List.set_cons_zero, List.set_cons_succ, i64_w, i32_w]
        rfl
      refine stepP HT_ 2 (some 9) ?_
      refine stepP HT_ 3 (some 10) ?_
    focus
      refine stepP HT_ 4 (some 11) ?_
      refine stepP HT_ 5 (some 12) ?_
      refine stepP HT_ 6 (some 13) ?_
      refine stepT4 HT_ HW_ 7 (some 14) hHeld ?_
      refine stepT4 HT_ HW_ 8 (some 15) hHeld ?_
      refine one_ (i := 9) (N := some 16) #[true, true, true, true, true, true, true, true, true, true, false, false, false, false] rfl rfl (one_of HT_.out (by kernel_rfl)) (by decide) (fun K hK => ?_)
      refine goes_ Try.func44 (by kernel_rfl) rfl #[.agg #[.int .i64 a0_0, .int .i64 a0_1, .slice A0_2 l0_2.length c0_2, .int .i64 a0_3]] (by rfl) rfl rfl (by (try simp only [List.map_toArray, List.map_cons, List.map_nil]); first | done | rfl | (simp only [List.length_drop, List.length_take]; rfl)) ?_
      with_reducible refine (entries_end.calls a0_0 a0_1 _ _ l0_2 a0_3 t128 _ ?side1 ?side2 A7.out).mono ?_
      (case side1 => repeat (first | exact (Kd.C_below HR0_2.out HB.out) | (with_reducible refine Kd.C_alloc ?_ _) | (with_reducible refine Kd.C_drewN ?_ _) | (with_reducible refine Kd.C_drew ?_)))
      (case side2 => exact HC0_2.out)
      rintro e wyi2 ⟨rfl, hb⟩
      refine ⟨_, rfl, ?_⟩
      have n0_ := Aside0.mk (blk_below (g := gb126) (o := .cells #[.int .i64 a0_0, .int .i64 a0_1, .slice A0_2 l0_2.length c0_2, .int .i64 a0_3] 26 (0, 0)) (by (with_reducible repeat (first | refine blk_drewN ?_ _ | refine blk_drew ?_ | refine blk_alloc ?_ _)); exact BK126.out) hb)
      have n1_ := Aside0.mk (below_step (by repeat (first | (with_reducible first | exact HB.out | apply below_alloc | apply pw_below_drewN | apply below_drew1 | refine below_set ?_ GE126.out) | exact HB.out)) hb)
      clear BK126
      clear HB
      have BK126 := n0_
      have HB := n1_
      clear n0_ n1_
      (try clear hb)
      (try clear hb2)
      (try clear hk)
      (try clear hi)
      refine hK.out _ _ ⟨(blk_cell BK126.out 0).trans rfl, (blk_cell BK126.out 1).trans rfl, (blk_cell BK126.out 2).trans rfl, (blk_cell BK126.out 3).trans rfl⟩ (fun hHeld => ?_)
      clear hK K
      refine norm_ (a' := ?_) ?_ ?_
      rotate_left
      · show Act.put _ (some 16) _ = _
        simp only [Act.put, List.setIfInBounds_toArray, List.set_cons_zero, List.set_cons_succ, i64_w, i32_w]
        rfl
      refine one_ (i := 10) (N := some 17) #[true, true, true, true, true, true, true, true, true, true, true, false, false, false] rfl rfl (one_of HT_.out (by kernel_rfl)) (by decide) (fun K hK => ?_)
      refine goes_ Try.func42 (by kernel_rfl) rfl #[.int .i64 a1, .int .i64 a0_0, .int .i64 t128] (by rfl) rfl rfl (by (try simp only [List.map_toArray, List.map_cons, List.map_nil]); first | done | rfl | (simp only [List.length_drop, List.length_take]; rfl)) ?_
      with_reducible refine (entries_within.calls a1 a0_0 t128 t129 _ A8.out).mono ?_
      rintro e w' ⟨rfl, ⟨nd, rfl⟩⟩
      refine ⟨_, rfl, ?_⟩
      refine hK.out _ _ ⟨(blk_cell BK126.out 0).trans rfl, (blk_cell BK126.out 1).trans rfl, (blk_cell BK126.out 2).trans rfl, (blk_cell BK126.out 3).trans rfl⟩ (fun hHeld => ?_)
      clear hK K
      refine norm_ (a' := ?_) ?_ ?_
      rotate_left
      · show Act.put _ (some 17) _ = _
        simp only [Act.put, List.setIfInBounds_toArray, List.set_cons_zero, List.set_cons_succ, i64_w, i32_w]
        rfl
      refine stepP HT_ 11 (some 18) ?_
      refine stepP HT_ 12 (some 19) ?_
      refine stepP HT_ 13 (some 6) ?_
      refine done_ (done_of HT_.out (by kernel_rfl)) ?_
      try go_wp2
      go_meet
      case rel => exact ⟨_, (!t129), (by first | rfl | (simp; done) | (simp [*]; done)), H', ⟨by first | omega | exact Nat.le_refl _⟩, ⟨by (with_reducible repeat (first | refine blk_drewN ?_ _ | refine blk_drew ?_ | refine blk_alloc ?_ _)); exact BK126.out⟩, ⟨by repeat (first | (with_reducible first | exact HB.out | apply below_alloc | apply pw_below_drewN | apply below_drew1 | refine below_set ?_ GE126.out) | exact HB.out)⟩⟩
    focus
      refine stepU HT_ 4 (some 11) ?_
      refine stepU HT_ 5 (some 12) ?_
      refine stepU HT_ 6 (some 13) ?_
      refine stepU HT_ 7 (some 14) ?_
      refine stepU HT_ 8 (some 15) ?_
      refine stepU HT_ 9 (some 16) ?_
      refine stepU HT_ 10 (some 17) ?_
      refine stepU HT_ 11 (some 18) ?_
      refine stepP HT_ 12 (some 19) ?_
      refine stepP HT_ 13 (some 6) ?_
      refine done_ (done_of HT_.out (by kernel_rfl)) ?_
      try go_wp2
      go_meet
      case rel => exact ⟨_, (true), (by first | rfl | (simp; done) | (simp [*]; done)), H', ⟨by first | omega | exact Nat.le_refl _⟩, ⟨by (with_reducible repeat (first | refine blk_drewN ?_ _ | refine blk_drew ?_ | refine blk_alloc ?_ _)); exact BK126.out⟩, ⟨by repeat (first | (with_reducible first | exact HB.out | apply below_alloc | apply pw_below_drewN | apply below_drew1 | refine below_set ?_ GE126.out) | exact HB.out)⟩⟩
  case rest =>
    clear HC3
    obtain ⟨kq, x6_2, rfl, HA, HJ2, BK126, HB⟩ := hcut
    cases kq with
    | zero => exact absurd HA.out (by simp [entries_TermAt.j0])
    | succ kj2 =>
      have H := HA.out
      clear HA
      simp only [entries_TermAt.j0] at H
      by_cases c14 : x6_2 = true
      · subst c14
        have H1 : (some (0, false)) = some (r1, r2) := by rw [if_pos rfl] at H; exact H
        clear H
        have H := H1
        clear H1
        simp only [Option.some.injEq, Prod.mk.injEq] at H
        obtain ⟨rfl, rfl⟩ := H
        go_wp2
        go_ret2
        exact ⟨by first | rfl | (simp [errW_none, errW_some] <;> rfl) | (simp [*, errW_none, errW_some] <;> rfl), by repeat (first | (with_reducible first | exact HB.out | apply below_alloc | apply pw_below_drewN | apply below_drew1 | refine below_set ?_ GE126.out) | exact HB.out)⟩
      · replace c14 := Bool.eq_false_iff.mpr c14
        subst c14
        have H1 : (if a1 = a0_0 then (some (a0_1, true)) else (if 0 ≤ (wrap64 ((wrap64 (a1 - a0_0)) - 1)) then (if (wrap64 ((wrap64 (a1 - a0_0)) - 1)) < (l0_2.length : Int) then (some ((rd_T33 l0_2 (wrap64 ((wrap64 (a1 - a0_0)) - 1))).f0, true)) else (none)) else (none))) = some (r1, r2) := by rw [if_neg (show ¬ (false = true) by decide)] at H; exact H
        clear H
        have H := H1
        clear H1
        by_cases c15 : a1 = a0_0
        · rw [if_pos c15] at H
          have c15b0 : (a1 == a0_0) = true := beq_iff_eq.mpr c15
          have c15b1 : (a1 != a0_0) = false := bne_eq_false_iff_eq.mpr c15
          clear c15
          simp only [Option.some.injEq, Prod.mk.injEq] at H
          obtain ⟨rfl, rfl⟩ := H
          have hcz16_0 : wc.cell? ⟨gb126, 0, none⟩ = some (.int .i64 a0_0) := (blk_cell BK126.out 0).trans rfl
          have hcz16_1 : wc.cell? ⟨gb126, 1, none⟩ = some (.int .i64 a0_1) := (blk_cell BK126.out 1).trans rfl
          have hcz16_2 : wc.cell? ⟨gb126, 2, none⟩ = some (.slice A0_2 l0_2.length c0_2) := (blk_cell BK126.out 2).trans rfl
          have hcz16_3 : wc.cell? ⟨gb126, 3, none⟩ = some (.int .i64 a0_3) := (blk_cell BK126.out 3).trans rfl
          have hfz16_0 := blk_frozen BK126.out 0
          have hfz16_1 := blk_frozen BK126.out 1
          have hfz16_2 := blk_frozen BK126.out 2
          have hfz16_3 := blk_frozen BK126.out 3
          go_wp2
          go_ret2
          exact ⟨by first | rfl | (simp [errW_none, errW_some] <;> rfl) | (simp [*, errW_none, errW_some] <;> rfl), by repeat (first | (with_reducible first | exact HB.out | apply below_alloc | apply pw_below_drewN | apply below_drew1 | refine below_set ?_ GE126.out) | exact HB.out)⟩
        · rw [if_neg c15] at H
          have c15b0 : (a1 == a0_0) = false := beq_eq_false_iff_ne.mpr c15
          have c15b1 : (a1 != a0_0) = true := bne_iff_ne.mpr c15
          obtain ⟨ji17, hji17⟩ : ∃ j_ : Int, (wrap64 ((wrap64 (a1 - a0_0)) - 1)) = j_ := ⟨_, rfl⟩
          replace H : (if 0 ≤ (ji17) then (if (ji17) < (l0_2.length : Int) then (some ((rd_T33 l0_2 (ji17)).f0, true)) else (none)) else (none)) = some (r1, r2) := by first | (rw [hji17] at H; exact H) | (simp only [hji17] at H ⊢; exact H)
          have hji17w : (IntKind.i64.wrap ((wrap64 (a1 - a0_0)) - 1)) = ji17 := (i64_w _).trans hji17
          by_cases c18 : 0 ≤ (ji17)
          · rw [if_pos c18] at H
            have c18b0 : decide (0 ≤ (ji17)) = true := decide_eq_true c18
            clear c18
            by_cases c19 : (ji17) < (l0_2.length : Int)
            · rw [if_pos c19] at H
              have c19b0 : decide ((ji17) < (l0_2.length : Int)) = true := decide_eq_true c19
              clear c19
              simp only [Option.some.injEq, Prod.mk.injEq] at H
              obtain ⟨rfl, rfl⟩ := H
              have hcz20_0 : wc.cell? ⟨gb126, 0, none⟩ = some (.int .i64 a0_0) := (blk_cell BK126.out 0).trans rfl
              have hcz20_1 : wc.cell? ⟨gb126, 1, none⟩ = some (.int .i64 a0_1) := (blk_cell BK126.out 1).trans rfl
              have hcz20_2 : wc.cell? ⟨gb126, 2, none⟩ = some (.slice A0_2 l0_2.length c0_2) := (blk_cell BK126.out 2).trans rfl
              have hcz20_3 : wc.cell? ⟨gb126, 3, none⟩ = some (.int .i64 a0_3) := (blk_cell BK126.out 3).trans rfl
              have hfz20_0 := blk_frozen BK126.out 0
              have hfz20_1 := blk_frozen BK126.out 1
              have hfz20_2 := blk_frozen BK126.out 2
              have hfz20_3 := blk_frozen BK126.out 3
              have p130 : 0 ≤ ((ji17) : Int) := of_decide_eq_true (by first | (with_reducible assumption) | assumption)
              have q130 : (ji17) < (l0_2.length : Int) := of_decide_eq_true (by first | (with_reducible assumption) | assumption)
              obtain ⟨ad130, e130, hx130_0, hx130_1, hx130_2⟩ := at_T33 HR0_2.out (ji17) p130 q130
              cases e130
              replace hx130_0 := (HB.out.cell (World.block_lt_of_cell? w _ hx130_0)).trans hx130_0
              replace hx130_1 := (HB.out.cell (World.block_lt_of_cell? w _ hx130_1)).trans hx130_1
              replace hx130_2 := (HB.out.cell (World.block_lt_of_cell? w _ hx130_2)).trans hx130_2
              replace p130 := eq_true p130
              replace q130 := eq_true q130
              go_wp2
              go_ret2
              exact ⟨by first | rfl | (simp [errW_none, errW_some] <;> rfl) | (simp only [← hji17]; first | rfl | (simp [errW_none, errW_some] <;> rfl)) | (simp [*, errW_none, errW_some] <;> rfl), by repeat (first | (with_reducible first | exact HB.out | apply below_alloc | apply pw_below_drewN | apply below_drew1 | refine below_set ?_ GE126.out) | exact HB.out)⟩
            · rw [if_neg c19] at H
              exact absurd H (by simp)
          · rw [if_neg c18] at H
            exact absurd H (by simp)

end Go.Proofs.Ytiebeiloooblpaa.E
end
section
/- Helper lemmas of this session over the print's words: rows of the call's own that are empty, and their like. -/
namespace Go.Proofs.YtiebeiloooblpaaH
open Go.RowKit Go.Proofs.YtiebeiloooblpaaW.PrintWords Go.Proofs.YtiebeiloooblpaaW.PrintLast Go.Proofs.YtiebeiloooblpaaW.PrintMore

/-- An empty literal owns nothing. -/
theorem R_empty {α : Type} (d : Kd α) (e : Nat) (w : World) :
    Kd.R d e (w.alloc (.cells #[] e)) w.heap.size (fun _ => True) (.slice (some ⟨w.heap.size, 0, none⟩) 0 0) [] := by
  refine ⟨fun _ _ => trivial, [], ?_, ⟨by simp, fun j p h => by simp at h⟩⟩
  have h := World.ownsRow_lit (base := w.heap.size) (e := e) (size := d.sz) w #[] 0 (Nat.le_refl _) (by simp [maxLen]) (by simp)
  simpa using h

end Go.Proofs.YtiebeiloooblpaaH
end
section
-- written by myprint.py, a program of this session over the kit's print.py
namespace Go.Proofs.Ytiebeiloooblpaa.E
open Go.RowKit Go.Proofs.YtiebeiloooblpaaW.PrintWords Go.Proofs.YtiebeiloooblpaaW.PrintLast Go.Proofs.YtiebeiloooblpaaW.PrintMore
attribute [local go_sem] max2_int min2_int max_two min_two max_three min_three max_four min_four   -- for this text's walks alone
set_option linter.unusedVariables false
set_option linter.unusedSimpArgs false

/-! ### slicesClone_Entry: function 39 -/
section
open Go.Proofs.YtiebeiloooblpaaH

def slicesClone_Entry.f (l0 : List (S33)) : Option ((List (S33))) := if l0.length < 4398046511104 then some l0 else none
set_option maxHeartbeats 8000000 in
set_option maxRecDepth 100000 in
theorem slicesClone_Entry.calls (A0 : Option Addr) (c0 : Nat) (l0 : List (S33)) (r : List (S33)) (w : World) (hr0 : Kd.C k33 w A0 l0.length l0) (hc0 : l0.length ≤ c0) (h : slicesClone_Entry.f l0 = some r) :
    Calls Try.prog 39 #[.slice A0 l0.length c0] w fun e w' => ∃ v0_ : Value, e = .returned (v0_) ∧ Kd.R k33 33 w' w.heap.size (fun _ => True) v0_ r ∧ Below w.heap.size w w' := by
  unfold slicesClone_Entry.f at h
  split at h
  · rename_i hlim
    obtain rfl := Option.some.inj h
    have LIMH := Aside0.mk hlim
    clear hlim h
    have HR0 := Aside0.mk hr0
    have HC0 := Aside0.mk hc0
    clear hr0 hc0
    have heq := fun (w : World) (a : Option Addr) (n c : Nat) => Lib.run_eql_slice_nil (P := Try.prog) w 24 33 a n c 0 0 Try.underlying24
    cases A0 with
    | none =>
      have h0 : l0.length = 0 := by
        rcases Nat.eq_zero_or_pos l0.length with h | h
        · exact h
        · obtain ⟨ad, e, _⟩ := HR0.out.2.2 h
          cases e
      obtain rfl : l0 = [] := List.eq_nil_of_length_eq_zero h0
      clear HR0 HC0 LIMH h0
      go_enter Try.func39, Try.ntmps39
      go_wp2
      go_ret
      exact ⟨_, rfl, Kd.R_nil _ _ _ _ _, Below.refl _ _⟩
    | some ad =>
      have HE := Aside0.mk (R_empty k33 33 w)
      have HB := Aside0.mk (below_alloc (Below.refl w.heap.size w) (.cells #[] 33))
      go_enter Try.func39, Try.ntmps39
      go_wp2_with (first | ((with_reducible refine gate_builtin (b := .append) (xs := #[.tmp 5, .tmp 6]) rfl ?_); at_builtin; refine Kd.R_append_rows k33 (w0 := w) w.heap.size rfl (.tmp 5) (.tmp 6) 24 33 (.agg #[(.int .i64 0), (.int .i64 0), (.string ⟨#[]⟩)]) 32 rfl Try.underlying24 info33 rfl (by decide) (by omega) _ ([] : List (S33)) l0 _ _ _ (fun _ => True) (fun _ => False) rfl rfl HE.out (Kd.C_alloc HR0.out _) (fun _ _ h => h) (fun _ h => h.elim) (fun _ _ => trivial) HB.out HB.out.size (by have := LIMH.out; simp only [List.length_nil]; omega) ?_; intro v1 w1 ho hb hg hat; have HO := Aside0.mk ho; have HB1 := Aside0.mk hb; clear ho hb hg hat HB HE))
      go_ret
      exact ⟨_, rfl, by simpa using HO.out, HB1.out⟩
  · cases h

end

end Go.Proofs.Ytiebeiloooblpaa.E
end
