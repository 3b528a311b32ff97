/- Part 7 of the proof of EntriesAdvance: the texts that it needs, put together by a program of this session. -/
import Derived.ChangeArms
import Derived.Deep.Slices
import Derived.ProofKit
import Derived.RowKit
import Derived.Test.YtiebeiloooblpaaRows
import Derived.Test.YtiebeiloooblpaaMEntriesAdvance6
section
-- written by myprint.py, a program of this session over the kit's print.py
namespace Go.Proofs.Ytiebeiloooblpaa.E
open Go.RowKit Go.Proofs.YtiebeiloooblpaaW.PrintWords Go.Proofs.YtiebeiloooblpaaW.PrintLast Go.Proofs.YtiebeiloooblpaaW.PrintMore
attribute [local go_sem] max2_int min2_int max_two min_two max_three min_three max_four min_four   -- for this text's walks alone
set_option linter.unusedVariables false
set_option linter.unusedSimpArgs false

/-! ### rialtolaw08_EntriesAdvance: function 7 -/
mutual
def rialtolaw08_EntriesAdvance.j0 : Nat → List Int → List Int → Bool → Option (Bool)
  | 0, _, _, _ => none
  | k + 1, x2, x8, x13 => rialtolaw08_EntriesAdvance.l0 k x2 x8 x13 0
def rialtolaw08_EntriesAdvance.l0 : Nat → List Int → List Int → Bool → Int → Option (Bool)
  | 0, _, _, _, _ => none
  | k + 1, x2, x8, x13, x14 => if x14 < (x8.length : Int) then (if x13 = true then (if 0 ≤ x14 then (if x14 < (x2.length : Int) then (rialtolaw08_EntriesAdvance.l0 k x2 x8 ((rd x8 x14) == (rd x2 x14)) (wrap64 (x14 + 1))) else (none)) else (none)) else (rialtolaw08_EntriesAdvance.l0 k x2 x8 false (wrap64 (x14 + 1)))) else (if x13 = true then ((rialtolaw08_live.f k).bind fun t581 => (some t581)) else (some false))
end
def rialtolaw08_EntriesAdvance.f (k : Nat) (a0_0 : Int) (a0_1 : Int) (l0_2 : List (S33)) (a0_3 : Int) (a1 : Int) (l2 : List Int) : Option (Bool) := (rialtoref08_Copy.f a0_0 a0_1 l0_2 a0_3).bind fun bt551 => (if ([] : List Int).length + l2.length < 17592186044416 then ((some (([] : List Int) ++ l2 : List Int)).bind fun y558 => ((entries_Advance.f k bt551.1 bt551.2.1 bt551.2.2.1 bt551.2.2.2 a1 y558).bind fun bt561 => ((rialtoref08_Advance.f k a0_0 a0_1 l0_2 a0_3 a1 l2).bind fun bt569 => ((rialtoref08_Same.f k bt561.1 bt561.2.1 bt561.2.2.1 bt561.2.2.2.1 bt569.1 bt569.2.1 bt569.2.2.1 bt569.2.2.2.1).bind fun t577 => (if t577 = true then (if bt561.2.2.2.2 = bt569.2.2.2.2 then ((rialtoref08_Same.f k bt551.1 bt551.2.1 bt551.2.2.1 bt551.2.2.2 a0_0 a0_1 l0_2 a0_3).bind fun t578 => (rialtolaw08_EntriesAdvance.j0 k l2 y558 t578)) else (rialtolaw08_EntriesAdvance.j0 k l2 y558 false)) else (rialtolaw08_EntriesAdvance.j0 k l2 y558 false)))))) else (none))
set_option maxHeartbeats 8000000 in
set_option maxRecDepth 100000 in
theorem rialtolaw08_EntriesAdvance.calls (k : Nat) (a0_0 : Int) (a0_1 : Int) (A0_2 : Option Addr) (c0_2 : Nat) (l0_2 : List (S33)) (a0_3 : Int) (a1 : Int) (A2 : Option Addr) (c2 : Nat) (l2 : List Int) (r : Bool) (w : World) (hr0_2 : Kd.C k33 w A0_2 l0_2.length l0_2) (hc0_2 : l0_2.length ≤ c0_2) (hr2 : Kd.C (Kd.int .i64) w A2 l2.length l2) (hc2 : l2.length ≤ c2) (h : rialtolaw08_EntriesAdvance.f k a0_0 a0_1 l0_2 a0_3 a1 l2 = some r) :
    Calls Try.prog 7 #[.agg #[.int .i64 a0_0, .int .i64 a0_1, .slice A0_2 l0_2.length c0_2, .int .i64 a0_3], .int .i64 a1, .slice A2 l2.length c2] w fun e w' => e = .returned (.bool r) ∧ Below w.heap.size w w' := by
  have hu26 := Try.underlying26
  have HR0_2 := Aside0.mk hr0_2
  have HC0_2 := Aside0.mk hc0_2
  clear hr0_2 hc0_2
  have HR2 := Aside0.mk hr2
  have HC2 := Aside0.mk hc2
  clear hr2 hc2
  have HB := Aside0.mk (Below.refl w.heap.size w)
  have H : ((rialtoref08_Copy.f a0_0 a0_1 l0_2 a0_3).bind fun bt551 => (if ([] : List Int).length + l2.length < 17592186044416 then ((some (([] : List Int) ++ l2 : List Int)).bind fun y558 => ((entries_Advance.f k bt551.1 bt551.2.1 bt551.2.2.1 bt551.2.2.2 a1 y558).bind fun bt561 => ((rialtoref08_Advance.f k a0_0 a0_1 l0_2 a0_3 a1 l2).bind fun bt569 => ((rialtoref08_Same.f k bt561.1 bt561.2.1 bt561.2.2.1 bt561.2.2.2.1 bt569.1 bt569.2.1 bt569.2.2.1 bt569.2.2.2.1).bind fun t577 => (if t577 = true then (if bt561.2.2.2.2 = bt569.2.2.2.2 then ((rialtoref08_Same.f k bt551.1 bt551.2.1 bt551.2.2.1 bt551.2.2.2 a0_0 a0_1 l0_2 a0_3).bind fun t578 => (rialtolaw08_EntriesAdvance.j0 k l2 y558 t578)) else (rialtolaw08_EntriesAdvance.j0 k l2 y558 false)) else (rialtolaw08_EntriesAdvance.j0 k l2 y558 false)))))) else (none))) = some r := h
  clear h
  replace H := Option.bind_eq_some_iff.mp H
  obtain ⟨⟨t551, t552, t553, t556⟩, A40, H⟩ := H
  replace H : (if ([] : List Int).length + l2.length < 17592186044416 then ((some (([] : List Int) ++ l2 : List Int)).bind fun y558 => ((entries_Advance.f k t551 t552 t553 t556 a1 y558).bind fun bt561 => ((rialtoref08_Advance.f k a0_0 a0_1 l0_2 a0_3 a1 l2).bind fun bt569 => ((rialtoref08_Same.f k bt561.1 bt561.2.1 bt561.2.2.1 bt561.2.2.2.1 bt569.1 bt569.2.1 bt569.2.2.1 bt569.2.2.2.1).bind fun t577 => (if t577 = true then (if bt561.2.2.2.2 = bt569.2.2.2.2 then ((rialtoref08_Same.f k t551 t552 t553 t556 a0_0 a0_1 l0_2 a0_3).bind fun t578 => (rialtolaw08_EntriesAdvance.j0 k l2 y558 t578)) else (rialtolaw08_EntriesAdvance.j0 k l2 y558 false)) else (rialtolaw08_EntriesAdvance.j0 k l2 y558 false)))))) else (none)) = some r := H
  have A4 := Aside0.mk A40
  clear A40
  by_cases c5 : ([] : List Int).length + l2.length < 17592186044416
  · rw [if_pos c5] at H
    have LMc5 := Aside0.mk c5
    clear c5
    obtain ⟨y558, hy558⟩ : ∃ y_ : List Int, y_ = (([] : List Int) ++ l2) := ⟨_, rfl⟩
    replace H : ((entries_Advance.f k t551 t552 t553 t556 a1 y558).bind fun bt561 => ((rialtoref08_Advance.f k a0_0 a0_1 l0_2 a0_3 a1 l2).bind fun bt569 => ((rialtoref08_Same.f k bt561.1 bt561.2.1 bt561.2.2.1 bt561.2.2.2.1 bt569.1 bt569.2.1 bt569.2.2.1 bt569.2.2.2.1).bind fun t577 => (if t577 = true then (if bt561.2.2.2.2 = bt569.2.2.2.2 then ((rialtoref08_Same.f k t551 t552 t553 t556 a0_0 a0_1 l0_2 a0_3).bind fun t578 => (rialtolaw08_EntriesAdvance.j0 k l2 y558 t578)) else (rialtolaw08_EntriesAdvance.j0 k l2 y558 false)) else (rialtolaw08_EntriesAdvance.j0 k l2 y558 false))))) = some r := by first | (rw [hy558]; with_reducible exact H) | (have H2_ := (Option.bind_some _ _).symm.trans H; rw [hy558]; with_reducible exact H2_) | (have H2_ := (Option.bind_some _ _).symm.trans H; with_reducible exact H2_) | with_reducible exact H | (rw [hy558]; exact H) | exact H
    have Ny558 := Aside0.mk hy558
    clear hy558
    replace H := Option.bind_eq_some_iff.mp H
    obtain ⟨⟨t561, t562, t563, t566, t567⟩, A60, H⟩ := H
    replace H : ((rialtoref08_Advance.f k a0_0 a0_1 l0_2 a0_3 a1 l2).bind fun bt569 => ((rialtoref08_Same.f k t561 t562 t563 t566 bt569.1 bt569.2.1 bt569.2.2.1 bt569.2.2.2.1).bind fun t577 => (if t577 = true then (if t567 = bt569.2.2.2.2 then ((rialtoref08_Same.f k t551 t552 t553 t556 a0_0 a0_1 l0_2 a0_3).bind fun t578 => (rialtolaw08_EntriesAdvance.j0 k l2 y558 t578)) else (rialtolaw08_EntriesAdvance.j0 k l2 y558 false)) else (rialtolaw08_EntriesAdvance.j0 k l2 y558 false)))) = some r := H
    have A6 := Aside0.mk A60
    clear A60
    replace H := Option.bind_eq_some_iff.mp H
    obtain ⟨⟨t569, t570, t571, t574, t575⟩, A70, H⟩ := H
    replace H : ((rialtoref08_Same.f k t561 t562 t563 t566 t569 t570 t571 t574).bind fun t577 => (if t577 = true then (if t567 = t575 then ((rialtoref08_Same.f k t551 t552 t553 t556 a0_0 a0_1 l0_2 a0_3).bind fun t578 => (rialtolaw08_EntriesAdvance.j0 k l2 y558 t578)) else (rialtolaw08_EntriesAdvance.j0 k l2 y558 false)) else (rialtolaw08_EntriesAdvance.j0 k l2 y558 false))) = some r := H
    have A7 := Aside0.mk A70
    clear A70
    have HC8 := Aside0.mk H
    clear H
    go_enter Try.func7, Try.ntmps7
    go_upto_region 6 with (first | ((with_reducible refine gate_dst (N := 3) rfl ?_); refine box_event ?hg (N := 3) ?hd (cs := #[.int .i64 a0_0, .int .i64 a0_1, .slice A0_2 l0_2.length c0_2, .int .i64 a0_3]) (t := 26) ?hr ?_; (case hd => rfl); (case hg => rfl); (case hr => first | (go_simp; done) | (go_simp; rfl)); intro gb550 hg w9 hbox hb; have n0_ := Aside0.mk (below_step (by repeat (first | (with_reducible first | exact HB.out | apply below_alloc | apply pw_below_drewN | apply below_drew1) | exact HB.out)) hb); have n1_ := Aside0.mk (hbox); have n2_ := Aside0.mk ((by rw [hg]; exact (below_size (by repeat (first | (with_reducible first | exact HB.out | apply below_alloc | apply pw_below_drewN | apply below_drew1) | exact HB.out))) : w.heap.size ≤ gb550)); have n3_ := Aside0.mk ((by rw [hg]; exact (below_size (by repeat (first | (with_reducible first | exact HB.out | apply below_alloc | apply pw_below_drewN | apply below_drew1) | exact HB.out))) : w.heap.size ≤ gb550)); clear HB; have HB := n0_; have BK550 := n1_; have GW550 := n2_; have GE550 := n3_; clear n0_ n1_ n2_ n3_; clear hb hbox hg; have hcz10_0 : w9.cell? ⟨gb550, 0, none⟩ = some (.int .i64 a0_0) := (blk_cell BK550.out 0).trans rfl; have hcz10_1 : w9.cell? ⟨gb550, 1, none⟩ = some (.int .i64 a0_1) := (blk_cell BK550.out 1).trans rfl; have hcz10_2 : w9.cell? ⟨gb550, 2, none⟩ = some (.slice A0_2 l0_2.length c0_2) := (blk_cell BK550.out 2).trans rfl; have hcz10_3 : w9.cell? ⟨gb550, 3, none⟩ = some (.int .i64 a0_3) := (blk_cell BK550.out 3).trans rfl; have hfz10_0 := blk_frozen BK550.out 0; have hfz10_1 := blk_frozen BK550.out 1; have hfz10_2 := blk_frozen BK550.out 2; have hfz10_3 := blk_frozen BK550.out 3) | (go_at_call 13; (with_reducible refine (rialtoref08_Copy.calls a0_0 a0_1 _ _ l0_2 a0_3 t551 t552 t553 t556 _ ?side1 ?side2 A4.out).mono ?_); (case side1 => repeat (first | exact (Kd.C_below HR0_2.out HB.out) | (with_reducible refine Kd.C_alloc ?_ _) | (with_reducible refine Kd.C_drewN ?_ _) | (with_reducible refine Kd.C_drew ?_))); (case side2 => exact HC0_2.out); rintro e w11 ⟨v554, rfl, ho0, hb⟩; have n0_ := Aside0.mk (Kd.R_lower ho0 (below_size (by repeat (first | (with_reducible first | exact HB.out | apply below_alloc | apply pw_below_drewN | apply below_drew1 | refine below_set ?_ GE550.out) | exact HB.out)))); have n1_ := Aside0.mk (blk_below (g := gb550) (o := .cells #[.int .i64 a0_0, .int .i64 a0_1, .slice A0_2 l0_2.length c0_2, .int .i64 a0_3] 26 (0, 0)) (by (with_reducible repeat (first | refine blk_drewN ?_ _ | refine blk_drew ?_ | refine blk_alloc ?_ _)); exact BK550.out) hb); have n2_ := Aside0.mk (below_step (by repeat (first | (with_reducible first | exact HB.out | apply below_alloc | apply pw_below_drewN | apply below_drew1 | refine below_set ?_ GE550.out) | exact HB.out)) hb); clear BK550; clear HB; have HO555 := n0_; have BK550 := n1_; have HB := n2_; clear n0_ n1_ n2_; (try clear hb); (try clear hb2); (try clear hk); (try clear hi); (try clear ho0)) | ((with_reducible refine gate_dst (N := 7) rfl ?_); refine box_event ?hg (N := 7) ?hd (cs := #[.int .i64 0, .int .i64 0, .slice none 0 0, .int .i64 0]) (t := 26) ?hr ?_; (case hd => rfl); (case hg => rfl); (case hr => first | (go_simp; done) | (go_simp; rfl)); intro gb557 hg w12 hbox hb; have n0_ := Aside0.mk (Kd.R_below (by (with_reducible repeat (first | apply Kd.R_alloc | apply Kd.R_drewN | apply Kd.R_drew)); exact HO555.out) hb); have n1_ := Aside0.mk (blk_below (g := gb550) (o := .cells #[.int .i64 a0_0, .int .i64 a0_1, .slice A0_2 l0_2.length c0_2, .int .i64 a0_3] 26 (0, 0)) (by (with_reducible repeat (first | refine blk_drewN ?_ _ | refine blk_drew ?_ | refine blk_alloc ?_ _)); exact BK550.out) hb); have n2_ := Aside0.mk (below_step (by repeat (first | (with_reducible first | exact HB.out | apply below_alloc | apply pw_below_drewN | apply below_drew1 | refine below_set ?_ GE550.out) | exact HB.out)) hb); have n3_ := Aside0.mk (hbox); have n4_ := Aside0.mk ((by rw [hg]; exact (below_size (by repeat (first | (with_reducible first | exact HB.out | apply below_alloc | apply pw_below_drewN | apply below_drew1 | refine below_set ?_ GE550.out) | exact HB.out))) : w.heap.size ≤ gb557)); have n5_ := Aside0.mk ((by rw [hg]; exact (below_size (by repeat (first | (with_reducible first | exact HB.out | apply below_alloc | apply pw_below_drewN | apply below_drew1 | refine below_set ?_ GE550.out) | exact HB.out))) : w.heap.size ≤ gb557)); have n6_ := Aside0.mk ((by rw [hg]; exact Nat.ne_of_lt (blk_lt (g := gb550) (o := .cells #[.int .i64 a0_0, .int .i64 a0_1, .slice A0_2 l0_2.length c0_2, .int .i64 a0_3] 26 (0, 0)) (by (with_reducible repeat (first | refine blk_drewN ?_ _ | refine blk_drew ?_ | refine blk_alloc ?_ _)); exact BK550.out)) : gb550 ≠ gb557)); have n7_ := Aside0.mk ((by rw [hg]; exact Nat.ne_of_gt (blk_lt (g := gb550) (o := .cells #[.int .i64 a0_0, .int .i64 a0_1, .slice A0_2 l0_2.length c0_2, .int .i64 a0_3] 26 (0, 0)) (by (with_reducible repeat (first | refine blk_drewN ?_ _ | refine blk_drew ?_ | refine blk_alloc ?_ _)); exact BK550.out)) : gb557 ≠ gb550)); clear HO555; clear BK550; clear HB; have HO555 := n0_; have BK550 := n1_; have HB := n2_; have BK557 := n3_; have GW557 := n4_; have GE557 := n5_; have NB550_557 := n6_; have NB557_550 := n7_; clear n0_ n1_ n2_ n3_ n4_ n5_ n6_ n7_; clear hb hbox hg; have hnb13 := NB557_550.out; have hnc13 := NB550_557.out; have hcz14_0 : w12.cell? ⟨gb557, 0, none⟩ = some (.int .i64 0) := (blk_cell BK557.out 0).trans rfl; have hcz14_1 : w12.cell? ⟨gb557, 1, none⟩ = some (.int .i64 0) := (blk_cell BK557.out 1).trans rfl; have hcz14_2 : w12.cell? ⟨gb557, 2, none⟩ = some (.slice none 0 0) := (blk_cell BK557.out 2).trans rfl; have hcz14_3 : w12.cell? ⟨gb557, 3, none⟩ = some (.int .i64 0) := (blk_cell BK557.out 3).trans rfl; have hfz14_0 := blk_frozen BK557.out 0; have hfz14_1 := blk_frozen BK557.out 1; have hfz14_2 := blk_frozen BK557.out 2; have hfz14_3 := blk_frozen BK557.out 3; obtain ⟨Ao15, co15, eo15⟩ := Kd.R_slice HO555.out; subst eo15) | ((with_reducible refine gate_builtin (b := .append) (xs := #[.tmp 17, .tmp 18]) rfl ?_); at_builtin; refine Kd.R_append_rows (Kd.int .i64) (w0 := w) w.heap.size rfl (.tmp 17) (.tmp 18) 47 3 (.int .i64 0) 8 rfl Try.underlying47 info3 rfl (by decide) (by omega) (.slice none 0 0) ([] : List Int) l2 _ _ _ (fun _ => True) (fun _ => False) rfl rfl ?aO ?aR (fun _ _ h => h) (fun _ h => h.elim) ?aF ?aB ?aS ?aL ?_; (case aR => exact Kd.C_below HR2.out (by repeat (first | (with_reducible first | exact HB.out | apply below_alloc | apply pw_below_drewN | apply below_drew1 | refine below_set ?_ GE550.out | refine below_set ?_ GE557.out) | exact HB.out))); (case aB => exact (by repeat (first | (with_reducible first | exact HB.out | apply below_alloc | apply pw_below_drewN | apply below_drew1 | refine below_set ?_ GE550.out | refine below_set ?_ GE557.out) | exact HB.out))); (case aF => exact (fun _ _ => trivial)); (case aO => exact ((Kd.R_nil _ _ _ _ (fun _ => True)))); (case aS => exact (below_size (by repeat (first | (with_reducible first | exact HB.out | apply below_alloc | apply pw_below_drewN | apply below_drew1 | refine below_set ?_ GE550.out | refine below_set ?_ GE557.out) | exact HB.out)))); (case aL => have := LMc5.out; omega); intro v559 w16 ho hb hg hat; rw [← Ny558.out] at ho; have n0_ := Aside0.mk (blk_grown (g := gb550) (o := .cells #[.int .i64 a0_0, .int .i64 a0_1, .slice A0_2 l0_2.length c0_2, .int .i64 a0_3] 26 (0, 0)) (by (with_reducible repeat (first | refine blk_drewN ?_ _ | refine blk_drew ?_ | refine blk_alloc ?_ _)); refine blk_far ?_ NB550_557.out _; (with_reducible repeat (first | refine blk_drewN ?_ _ | refine blk_drew ?_ | refine blk_alloc ?_ _)); refine blk_far ?_ NB550_557.out _; (with_reducible repeat (first | refine blk_drewN ?_ _ | refine blk_drew ?_ | refine blk_alloc ?_ _)); refine blk_far ?_ NB550_557.out _; (with_reducible repeat (first | refine blk_drewN ?_ _ | refine blk_drew ?_ | refine blk_alloc ?_ _)); refine blk_far ?_ NB550_557.out _; (with_reducible repeat (first | refine blk_drewN ?_ _ | refine blk_drew ?_ | refine blk_alloc ?_ _)); exact BK550.out) hg (by simp [Value.ownBlock])); have n1_ := Aside0.mk (Kd.R_grown (by (with_reducible repeat (first | apply Kd.R_alloc | apply Kd.R_drewN | apply Kd.R_drew)); exact (Kd.R_mono (Kd.R_far (p := ⟨gb557, 3, none⟩) (Kd.R_far (p := ⟨gb557, 2, none⟩) (Kd.R_far (p := ⟨gb557, 1, none⟩) (Kd.R_far (p := ⟨gb557, 0, none⟩) (Kd.R_types HO555.out BK557.out (by decide)) (fun _ hk => hk.2) (.int .i64 t551)) (fun _ hk => hk.2) (.int .i64 t552)) (fun _ hk => hk.2) (.slice Ao15 t553.length co15)) (fun _ hk => hk.2) (.int .i64 t556)) (fun _ h_ => h_.1))) hg (fun _ _ => by simp [Value.ownBlock])); have n2_ := Aside0.mk (blk_grown (g := gb557) (o := .cells #[.int .i64 t551, .int .i64 t552, .slice Ao15 t553.length co15, .int .i64 t556] 26 (0, 0)) (by (with_reducible repeat (first | refine blk_drewN ?_ _ | refine blk_drew ?_ | refine blk_alloc ?_ _)); refine blk_put (cs := #[.int .i64 t551, .int .i64 t552, .slice Ao15 t553.length co15, .int .i64 0]) ?_ 3 _ rfl; (with_reducible repeat (first | refine blk_drewN ?_ _ | refine blk_drew ?_ | refine blk_alloc ?_ _)); refine blk_put (cs := #[.int .i64 t551, .int .i64 t552, .slice none 0 0, .int .i64 0]) ?_ 2 _ rfl; (with_reducible repeat (first | refine blk_drewN ?_ _ | refine blk_drew ?_ | refine blk_alloc ?_ _)); refine blk_put (cs := #[.int .i64 t551, .int .i64 0, .slice none 0 0, .int .i64 0]) ?_ 1 _ rfl; (with_reducible repeat (first | refine blk_drewN ?_ _ | refine blk_drew ?_ | refine blk_alloc ?_ _)); refine blk_put (cs := #[.int .i64 0, .int .i64 0, .slice none 0 0, .int .i64 0]) ?_ 0 _ rfl; (with_reducible repeat (first | refine blk_drewN ?_ _ | refine blk_drew ?_ | refine blk_alloc ?_ _)); exact BK557.out) hg (by simp [Value.ownBlock])); have n3_ := Aside0.mk (hb); have n4_ := Aside0.mk (ho); clear BK550; clear HO555; clear BK557; clear HB; have BK550 := n0_; have HO555 := n1_; have BK557 := n2_; have HB := n3_; have HO560 := n4_; clear n0_ n1_ n2_ n3_ n4_; clear ho hb hg hat; have hcz17_0 : w16.cell? ⟨gb557, 0, none⟩ = some (.int .i64 t551) := (blk_cell BK557.out 0).trans rfl; have hcz17_1 : w16.cell? ⟨gb557, 1, none⟩ = some (.int .i64 t552) := (blk_cell BK557.out 1).trans rfl; have hcz17_2 : w16.cell? ⟨gb557, 2, none⟩ = some (.slice Ao15 t553.length co15) := (blk_cell BK557.out 2).trans rfl; have hcz17_3 : w16.cell? ⟨gb557, 3, none⟩ = some (.int .i64 t556) := (blk_cell BK557.out 3).trans rfl; have hfz17_0 := blk_frozen BK557.out 0; have hfz17_1 := blk_frozen BK557.out 1; have hfz17_2 := blk_frozen BK557.out 2; have hfz17_3 := blk_frozen BK557.out 3; obtain ⟨Ao18, co18, eo18⟩ := Kd.R_slice HO560.out; subst eo18) | (go_at_call 25; (with_reducible refine (entries_Advance.calls k t551 t552 _ _ t553 t556 a1 _ _ y558 t561 t562 t563 t566 t567 _ ?side1 ?side2 ?side3 ?side4 A6.out).mono ?_); (case side1 => repeat (first | exact (Kd.R_reads' HO555.out).2.2 | (with_reducible refine Kd.C_alloc ?_ _) | (with_reducible refine Kd.C_drewN ?_ _) | (with_reducible refine Kd.C_drew ?_))); (case side2 => exact (Kd.R_reads' HO555.out).2.1); (case side3 => repeat (first | exact (Kd.R_reads' HO560.out).2.2 | (with_reducible refine Kd.C_alloc ?_ _) | (with_reducible refine Kd.C_drewN ?_ _) | (with_reducible refine Kd.C_drew ?_))); (case side4 => exact (Kd.R_reads' HO560.out).2.1); rintro e w19 ⟨v564, rfl, ho0, hb⟩; have n0_ := Aside0.mk (Kd.R_elder' (by (with_reducible repeat (first | apply Kd.R_alloc | apply Kd.R_drewN | apply Kd.R_drew)); exact HO555.out) (Kd.R_base ho0) hb); have n1_ := Aside0.mk (Kd.R_below (by (with_reducible repeat (first | apply Kd.R_alloc | apply Kd.R_drewN | apply Kd.R_drew)); exact HO560.out) hb); have n2_ := Aside0.mk (Kd.R_lower (Kd.R_new' ho0 (Kd.R_lt (by (with_reducible repeat (first | apply Kd.R_alloc | apply Kd.R_drewN | apply Kd.R_drew)); exact HO555.out))) (below_size (by repeat (first | (with_reducible first | exact HB.out | apply below_alloc | apply pw_below_drewN | apply below_drew1 | refine below_set ?_ GE550.out | refine below_set ?_ GE557.out) | exact HB.out)))); have n3_ := Aside0.mk (blk_below (g := gb550) (o := .cells #[.int .i64 a0_0, .int .i64 a0_1, .slice A0_2 l0_2.length c0_2, .int .i64 a0_3] 26 (0, 0)) (by (with_reducible repeat (first | refine blk_drewN ?_ _ | refine blk_drew ?_ | refine blk_alloc ?_ _)); exact BK550.out) hb); have n4_ := Aside0.mk (blk_below (g := gb557) (o := .cells #[.int .i64 t551, .int .i64 t552, .slice Ao15 t553.length co15, .int .i64 t556] 26 (0, 0)) (by (with_reducible repeat (first | refine blk_drewN ?_ _ | refine blk_drew ?_ | refine blk_alloc ?_ _)); exact BK557.out) hb); have n5_ := Aside0.mk (below_step (by repeat (first | (with_reducible first | exact HB.out | apply below_alloc | apply pw_below_drewN | apply below_drew1 | refine below_set ?_ GE550.out | refine below_set ?_ GE557.out) | exact HB.out)) hb); clear HO555; clear HO560; clear BK550; clear BK557; clear HB; have HO555 := n0_; have HO560 := n1_; have HO565 := n2_; have BK550 := n3_; have BK557 := n4_; have HB := n5_; clear n0_ n1_ n2_ n3_ n4_ n5_; (try clear hb); (try clear hb2); (try clear hk); (try clear hi); (try clear ho0)) | ((with_reducible refine gate_dst (N := 9) rfl ?_); refine box_event ?hg (N := 9) ?hd (cs := #[.int .i64 0, .int .i64 0, .slice none 0 0, .int .i64 0]) (t := 26) ?hr ?_; (case hd => rfl); (case hg => rfl); (case hr => first | (go_simp; done) | (go_simp; rfl)); intro gb568 hg w20 hbox hb; have n0_ := Aside0.mk (Kd.R_below (by (with_reducible repeat (first | apply Kd.R_alloc | apply Kd.R_drewN | apply Kd.R_drew)); exact HO555.out) hb); have n1_ := Aside0.mk (Kd.R_below (by (with_reducible repeat (first | apply Kd.R_alloc | apply Kd.R_drewN | apply Kd.R_drew)); exact HO560.out) hb); have n2_ := Aside0.mk (Kd.R_below (by (with_reducible repeat (first | apply Kd.R_alloc | apply Kd.R_drewN | apply Kd.R_drew)); exact HO565.out) hb); have n3_ := Aside0.mk (blk_below (g := gb550) (o := .cells #[.int .i64 a0_0, .int .i64 a0_1, .slice A0_2 l0_2.length c0_2, .int .i64 a0_3] 26 (0, 0)) (by (with_reducible repeat (first | refine blk_drewN ?_ _ | refine blk_drew ?_ | refine blk_alloc ?_ _)); exact BK550.out) hb); have n4_ := Aside0.mk (blk_below (g := gb557) (o := .cells #[.int .i64 t551, .int .i64 t552, .slice Ao15 t553.length co15, .int .i64 t556] 26 (0, 0)) (by (with_reducible repeat (first | refine blk_drewN ?_ _ | refine blk_drew ?_ | refine blk_alloc ?_ _)); exact BK557.out) hb); have n5_ := Aside0.mk (below_step (by repeat (first | (with_reducible first | exact HB.out | apply below_alloc | apply pw_below_drewN | apply below_drew1 | refine below_set ?_ GE550.out | refine below_set ?_ GE557.out) | exact HB.out)) hb); have n6_ := Aside0.mk (hbox); have n7_ := Aside0.mk ((by rw [hg]; exact (below_size (by repeat (first | (with_reducible first | exact HB.out | apply below_alloc | apply pw_below_drewN | apply below_drew1 | refine below_set ?_ GE550.out | refine below_set ?_ GE557.out) | exact HB.out))) : w.heap.size ≤ gb568)); have n8_ := Aside0.mk ((by rw [hg]; exact (below_size (by repeat (first | (with_reducible first | exact HB.out | apply below_alloc | apply pw_below_drewN | apply below_drew1 | refine below_set ?_ GE550.out | refine below_set ?_ GE557.out) | exact HB.out))) : w.heap.size ≤ gb568)); have n9_ := Aside0.mk ((by rw [hg]; exact Nat.ne_of_lt (blk_lt (g := gb550) (o := .cells #[.int .i64 a0_0, .int .i64 a0_1, .slice A0_2 l0_2.length c0_2, .int .i64 a0_3] 26 (0, 0)) (by (with_reducible repeat (first | refine blk_drewN ?_ _ | refine blk_drew ?_ | refine blk_alloc ?_ _)); exact BK550.out)) : gb550 ≠ gb568)); have n10_ := Aside0.mk ((by rw [hg]; exact Nat.ne_of_gt (blk_lt (g := gb550) (o := .cells #[.int .i64 a0_0, .int .i64 a0_1, .slice A0_2 l0_2.length c0_2, .int .i64 a0_3] 26 (0, 0)) (by (with_reducible repeat (first | refine blk_drewN ?_ _ | refine blk_drew ?_ | refine blk_alloc ?_ _)); exact BK550.out)) : gb568 ≠ gb550)); have n11_ := Aside0.mk ((by rw [hg]; exact Nat.ne_of_lt (blk_lt (g := gb557) (o := .cells #[.int .i64 t551, .int .i64 t552, .slice Ao15 t553.length co15, .int .i64 t556] 26 (0, 0)) (by (with_reducible repeat (first | refine blk_drewN ?_ _ | refine blk_drew ?_ | refine blk_alloc ?_ _)); exact BK557.out)) : gb557 ≠ gb568)); have n12_ := Aside0.mk ((by rw [hg]; exact Nat.ne_of_gt (blk_lt (g := gb557) (o := .cells #[.int .i64 t551, .int .i64 t552, .slice Ao15 t553.length co15, .int .i64 t556] 26 (0, 0)) (by (with_reducible repeat (first | refine blk_drewN ?_ _ | refine blk_drew ?_ | refine blk_alloc ?_ _)); exact BK557.out)) : gb568 ≠ gb557)); clear HO555; clear HO560; clear HO565; clear BK550; clear BK557; clear HB; have HO555 := n0_; have HO560 := n1_; have HO565 := n2_; have BK550 := n3_; have BK557 := n4_; have HB := n5_; have BK568 := n6_; have GW568 := n7_; have GE568 := n8_; have NB550_568 := n9_; have NB568_550 := n10_; have NB557_568 := n11_; have NB568_557 := n12_; clear n0_ n1_ n2_ n3_ n4_ n5_ n6_ n7_ n8_ n9_ n10_ n11_ n12_; clear hb hbox hg; have hnb21 := NB568_550.out; have hnc21 := NB550_568.out; have hnb22 := NB568_557.out; have hnc22 := NB557_568.out; have hcz23_0 : w20.cell? ⟨gb568, 0, none⟩ = some (.int .i64 0) := (blk_cell BK568.out 0).trans rfl; have hcz23_1 : w20.cell? ⟨gb568, 1, none⟩ = some (.int .i64 0) := (blk_cell BK568.out 1).trans rfl; have hcz23_2 : w20.cell? ⟨gb568, 2, none⟩ = some (.slice none 0 0) := (blk_cell BK568.out 2).trans rfl; have hcz23_3 : w20.cell? ⟨gb568, 3, none⟩ = some (.int .i64 0) := (blk_cell BK568.out 3).trans rfl; have hfz23_0 := blk_frozen BK568.out 0; have hfz23_1 := blk_frozen BK568.out 1; have hfz23_2 := blk_frozen BK568.out 2; have hfz23_3 := blk_frozen BK568.out 3; obtain ⟨Ao24, co24, eo24⟩ := Kd.R_slice HO565.out; subst eo24; have hcz25_0 : w20.cell? ⟨gb550, 0, none⟩ = some (.int .i64 a0_0) := (blk_cell BK550.out 0).trans rfl; have hcz25_1 : w20.cell? ⟨gb550, 1, none⟩ = some (.int .i64 a0_1) := (blk_cell BK550.out 1).trans rfl; have hcz25_2 : w20.cell? ⟨gb550, 2, none⟩ = some (.slice A0_2 l0_2.length c0_2) := (blk_cell BK550.out 2).trans rfl; have hcz25_3 : w20.cell? ⟨gb550, 3, none⟩ = some (.int .i64 a0_3) := (blk_cell BK550.out 3).trans rfl; have hfz25_0 := blk_frozen BK550.out 0; have hfz25_1 := blk_frozen BK550.out 1; have hfz25_2 := blk_frozen BK550.out 2; have hfz25_3 := blk_frozen BK550.out 3) | (go_at_call 26; (with_reducible refine (rialtoref08_Advance.calls k a0_0 a0_1 _ _ l0_2 a0_3 a1 _ _ l2 t569 t570 t571 t574 t575 _ ?side1 ?side2 ?side3 ?side4 A7.out).mono ?_); (case side1 => exact Kd.C_below HR0_2.out (by repeat (first | (with_reducible first | exact HB.out | apply below_alloc | apply pw_below_drewN | apply below_drew1 | refine below_set ?_ GE550.out | refine below_set ?_ GE557.out | refine below_set ?_ GE568.out) | exact HB.out))); (case side2 => exact HC0_2.out); (case side3 => exact Kd.C_below HR2.out (by repeat (first | (with_reducible first | exact HB.out | apply below_alloc | apply pw_below_drewN | apply below_drew1 | refine below_set ?_ GE550.out | refine below_set ?_ GE557.out | refine below_set ?_ GE568.out) | exact HB.out))); (case side4 => exact HC2.out); rintro e w26 ⟨v572, rfl, ho0, hb⟩; have n0_ := Aside0.mk (Kd.R_elder' (by (with_reducible repeat (first | apply Kd.R_alloc | apply Kd.R_drewN | apply Kd.R_drew)); exact (Kd.R_mono (Kd.R_far (p := ⟨gb568, 3, none⟩) (Kd.R_far (p := ⟨gb568, 2, none⟩) (Kd.R_far (p := ⟨gb568, 1, none⟩) (Kd.R_far (p := ⟨gb568, 0, none⟩) (Kd.R_types HO555.out BK568.out (by decide)) (fun _ hk => hk.2) (.int .i64 t561)) (fun _ hk => hk.2) (.int .i64 t562)) (fun _ hk => hk.2) (.slice Ao24 t563.length co24)) (fun _ hk => hk.2) (.int .i64 t566)) (fun _ h_ => h_.1))) (Kd.R_base ho0) hb); have n1_ := Aside0.mk (Kd.R_below (by (with_reducible repeat (first | apply Kd.R_alloc | apply Kd.R_drewN | apply Kd.R_drew)); exact (Kd.R_mono (Kd.R_far (p := ⟨gb568, 3, none⟩) (Kd.R_far (p := ⟨gb568, 2, none⟩) (Kd.R_far (p := ⟨gb568, 1, none⟩) (Kd.R_far (p := ⟨gb568, 0, none⟩) (Kd.R_types HO560.out BK568.out (by decide)) (fun _ hk => hk.2) (.int .i64 t561)) (fun _ hk => hk.2) (.int .i64 t562)) (fun _ hk => hk.2) (.slice Ao24 t563.length co24)) (fun _ hk => hk.2) (.int .i64 t566)) (fun _ h_ => h_.1))) hb); have n2_ := Aside0.mk (Kd.R_elder' (by (with_reducible repeat (first | apply Kd.R_alloc | apply Kd.R_drewN | apply Kd.R_drew)); exact (Kd.R_mono (Kd.R_far (p := ⟨gb568, 3, none⟩) (Kd.R_far (p := ⟨gb568, 2, none⟩) (Kd.R_far (p := ⟨gb568, 1, none⟩) (Kd.R_far (p := ⟨gb568, 0, none⟩) (Kd.R_types HO565.out BK568.out (by decide)) (fun _ hk => hk.2) (.int .i64 t561)) (fun _ hk => hk.2) (.int .i64 t562)) (fun _ hk => hk.2) (.slice Ao24 t563.length co24)) (fun _ hk => hk.2) (.int .i64 t566)) (fun _ h_ => h_.1))) (Kd.R_base ho0) hb); have n3_ := Aside0.mk (Kd.R_lower (Kd.R_new' (Kd.R_new' ho0 (Kd.R_lt (by (with_reducible repeat (first | apply Kd.R_alloc | apply Kd.R_drewN | apply Kd.R_drew)); exact (Kd.R_mono (Kd.R_far (p := ⟨gb568, 3, none⟩) (Kd.R_far (p := ⟨gb568, 2, none⟩) (Kd.R_far (p := ⟨gb568, 1, none⟩) (Kd.R_far (p := ⟨gb568, 0, none⟩) (Kd.R_types HO555.out BK568.out (by decide)) (fun _ hk => hk.2) (.int .i64 t561)) (fun _ hk => hk.2) (.int .i64 t562)) (fun _ hk => hk.2) (.slice Ao24 t563.length co24)) (fun _ hk => hk.2) (.int .i64 t566)) (fun _ h_ => h_.1))))) (Kd.R_lt (by (with_reducible repeat (first | apply Kd.R_alloc | apply Kd.R_drewN | apply Kd.R_drew)); exact (Kd.R_mono (Kd.R_far (p := ⟨gb568, 3, none⟩) (Kd.R_far (p := ⟨gb568, 2, none⟩) (Kd.R_far (p := ⟨gb568, 1, none⟩) (Kd.R_far (p := ⟨gb568, 0, none⟩) (Kd.R_types HO565.out BK568.out (by decide)) (fun _ hk => hk.2) (.int .i64 t561)) (fun _ hk => hk.2) (.int .i64 t562)) (fun _ hk => hk.2) (.slice Ao24 t563.length co24)) (fun _ hk => hk.2) (.int .i64 t566)) (fun _ h_ => h_.1))))) (below_size (by repeat (first | (with_reducible first | exact HB.out | apply below_alloc | apply pw_below_drewN | apply below_drew1 | refine below_set ?_ GE550.out | refine below_set ?_ GE557.out | refine below_set ?_ GE568.out) | exact HB.out)))); have n4_ := Aside0.mk (blk_below (g := gb550) (o := .cells #[.int .i64 a0_0, .int .i64 a0_1, .slice A0_2 l0_2.length c0_2, .int .i64 a0_3] 26 (0, 0)) (by (with_reducible repeat (first | refine blk_drewN ?_ _ | refine blk_drew ?_ | refine blk_alloc ?_ _)); refine blk_far ?_ NB550_568.out _; (with_reducible repeat (first | refine blk_drewN ?_ _ | refine blk_drew ?_ | refine blk_alloc ?_ _)); refine blk_far ?_ NB550_568.out _; (with_reducible repeat (first | refine blk_drewN ?_ _ | refine blk_drew ?_ | refine blk_alloc ?_ _)); refine blk_far ?_ NB550_568.out _; (with_reducible repeat (first | refine blk_drewN ?_ _ | refine blk_drew ?_ | refine blk_alloc ?_ _)); refine blk_far ?_ NB550_568.out _; (with_reducible repeat (first | refine blk_drewN ?_ _ | refine blk_drew ?_ | refine blk_alloc ?_ _)); exact BK550.out) hb); have n5_ := Aside0.mk (blk_below (g := gb557) (o := .cells #[.int .i64 t551, .int .i64 t552, .slice Ao15 t553.length co15, .int .i64 t556] 26 (0, 0)) (by (with_reducible repeat (first | refine blk_drewN ?_ _ | refine blk_drew ?_ | refine blk_alloc ?_ _)); refine blk_far ?_ NB557_568.out _; (with_reducible repeat (first | refine blk_drewN ?_ _ | refine blk_drew ?_ | refine blk_alloc ?_ _)); refine blk_far ?_ NB557_568.out _; (with_reducible repeat (first | refine blk_drewN ?_ _ | refine blk_drew ?_ | refine blk_alloc ?_ _)); refine blk_far ?_ NB557_568.out _; (with_reducible repeat (first | refine blk_drewN ?_ _ | refine blk_drew ?_ | refine blk_alloc ?_ _)); refine blk_far ?_ NB557_568.out _; (with_reducible repeat (first | refine blk_drewN ?_ _ | refine blk_drew ?_ | refine blk_alloc ?_ _)); exact BK557.out) hb); have n6_ := Aside0.mk (blk_below (g := gb568) (o := .cells #[.int .i64 t561, .int .i64 t562, .slice Ao24 t563.length co24, .int .i64 t566] 26 (0, 0)) (by (with_reducible repeat (first | refine blk_drewN ?_ _ | refine blk_drew ?_ | refine blk_alloc ?_ _)); refine blk_put (cs := #[.int .i64 t561, .int .i64 t562, .slice Ao24 t563.length co24, .int .i64 0]) ?_ 3 _ rfl; (with_reducible repeat (first | refine blk_drewN ?_ _ | refine blk_drew ?_ | refine blk_alloc ?_ _)); refine blk_put (cs := #[.int .i64 t561, .int .i64 t562, .slice none 0 0, .int .i64 0]) ?_ 2 _ rfl; (with_reducible repeat (first | refine blk_drewN ?_ _ | refine blk_drew ?_ | refine blk_alloc ?_ _)); refine blk_put (cs := #[.int .i64 t561, .int .i64 0, .slice none 0 0, .int .i64 0]) ?_ 1 _ rfl; (with_reducible repeat (first | refine blk_drewN ?_ _ | refine blk_drew ?_ | refine blk_alloc ?_ _)); refine blk_put (cs := #[.int .i64 0, .int .i64 0, .slice none 0 0, .int .i64 0]) ?_ 0 _ rfl; (with_reducible repeat (first | refine blk_drewN ?_ _ | refine blk_drew ?_ | refine blk_alloc ?_ _)); exact BK568.out) hb); have n7_ := Aside0.mk (below_step (by repeat (first | (with_reducible first | exact HB.out | apply below_alloc | apply pw_below_drewN | apply below_drew1 | refine below_set ?_ GE550.out | refine below_set ?_ GE557.out | refine below_set ?_ GE568.out) | exact HB.out)) hb); clear HO555; clear HO560; clear HO565; clear BK550; clear BK557; clear BK568; clear HB; have HO555 := n0_; have HO560 := n1_; have HO565 := n2_; have HO573 := n3_; have BK550 := n4_; have BK557 := n5_; have BK568 := n6_; have HB := n7_; clear n0_ n1_ n2_ n3_ n4_ n5_ n6_ n7_; (try clear hb); (try clear hb2); (try clear hk); (try clear hi); (try clear ho0)) | ((with_reducible refine gate_dst (N := 11) rfl ?_); refine box_event ?hg (N := 11) ?hd (cs := #[.int .i64 0, .int .i64 0, .slice none 0 0, .int .i64 0]) (t := 26) ?hr ?_; (case hd => rfl); (case hg => rfl); (case hr => first | (go_simp; done) | (go_simp; rfl)); intro gb576 hg w27 hbox hb; have n0_ := Aside0.mk (Kd.R_below (by (with_reducible repeat (first | apply Kd.R_alloc | apply Kd.R_drewN | apply Kd.R_drew)); exact HO555.out) hb); have n1_ := Aside0.mk (Kd.R_below (by (with_reducible repeat (first | apply Kd.R_alloc | apply Kd.R_drewN | apply Kd.R_drew)); exact HO560.out) hb); have n2_ := Aside0.mk (Kd.R_below (by (with_reducible repeat (first | apply Kd.R_alloc | apply Kd.R_drewN | apply Kd.R_drew)); exact HO565.out) hb); have n3_ := Aside0.mk (Kd.R_below (by (with_reducible repeat (first | apply Kd.R_alloc | apply Kd.R_drewN | apply Kd.R_drew)); exact HO573.out) hb); have n4_ := Aside0.mk (blk_below (g := gb550) (o := .cells #[.int .i64 a0_0, .int .i64 a0_1, .slice A0_2 l0_2.length c0_2, .int .i64 a0_3] 26 (0, 0)) (by (with_reducible repeat (first | refine blk_drewN ?_ _ | refine blk_drew ?_ | refine blk_alloc ?_ _)); exact BK550.out) hb); have n5_ := Aside0.mk (blk_below (g := gb557) (o := .cells #[.int .i64 t551, .int .i64 t552, .slice Ao15 t553.length co15, .int .i64 t556] 26 (0, 0)) (by (with_reducible repeat (first | refine blk_drewN ?_ _ | refine blk_drew ?_ | refine blk_alloc ?_ _)); exact BK557.out) hb); have n6_ := Aside0.mk (blk_below (g := gb568) (o := .cells #[.int .i64 t561, .int .i64 t562, .slice Ao24 t563.length co24, .int .i64 t566] 26 (0, 0)) (by (with_reducible repeat (first | refine blk_drewN ?_ _ | refine blk_drew ?_ | refine blk_alloc ?_ _)); exact BK568.out) hb); have n7_ := Aside0.mk (below_step (by repeat (first | (with_reducible first | exact HB.out | apply below_alloc | apply pw_below_drewN | apply below_drew1 | refine below_set ?_ GE550.out | refine below_set ?_ GE557.out | refine below_set ?_ GE568.out) | exact HB.out)) hb); have n8_ := Aside0.mk (hbox); have n9_ := Aside0.mk ((by rw [hg]; exact (below_size (by repeat (first | (with_reducible first | exact HB.out | apply below_alloc | apply pw_below_drewN | apply below_drew1 | refine below_set ?_ GE550.out | refine below_set ?_ GE557.out | refine below_set ?_ GE568.out) | exact HB.out))) : w.heap.size ≤ gb576)); have n10_ := Aside0.mk ((by rw [hg]; exact (below_size (by repeat (first | (with_reducible first | exact HB.out | apply below_alloc | apply pw_below_drewN | apply below_drew1 | refine below_set ?_ GE550.out | refine below_set ?_ GE557.out | refine below_set ?_ GE568.out) | exact HB.out))) : w.heap.size ≤ gb576)); have n11_ := Aside0.mk ((by rw [hg]; exact Nat.ne_of_lt (blk_lt (g := gb550) (o := .cells #[.int .i64 a0_0, .int .i64 a0_1, .slice A0_2 l0_2.length c0_2, .int .i64 a0_3] 26 (0, 0)) (by (with_reducible repeat (first | refine blk_drewN ?_ _ | refine blk_drew ?_ | refine blk_alloc ?_ _)); exact BK550.out)) : gb550 ≠ gb576)); have n12_ := Aside0.mk ((by rw [hg]; exact Nat.ne_of_gt (blk_lt (g := gb550) (o := .cells #[.int .i64 a0_0, .int .i64 a0_1, .slice A0_2 l0_2.length c0_2, .int .i64 a0_3] 26 (0, 0)) (by (with_reducible repeat (first | refine blk_drewN ?_ _ | refine blk_drew ?_ | refine blk_alloc ?_ _)); exact BK550.out)) : gb576 ≠ gb550)); have n13_ := Aside0.mk ((by rw [hg]; exact Nat.ne_of_lt (blk_lt (g := gb557) (o := .cells #[.int .i64 t551, .int .i64 t552, .slice Ao15 t553.length co15, .int .i64 t556] 26 (0, 0)) (by (with_reducible repeat (first | refine blk_drewN ?_ _ | refine blk_drew ?_ | refine blk_alloc ?_ _)); exact BK557.out)) : gb557 ≠ gb576)); have n14_ := Aside0.mk ((by rw [hg]; exact Nat.ne_of_gt (blk_lt (g := gb557) (o := .cells #[.int .i64 t551, .int .i64 t552, .slice Ao15 t553.length co15, .int .i64 t556] 26 (0, 0)) (by (with_reducible repeat (first | refine blk_drewN ?_ _ | refine blk_drew ?_ | refine blk_alloc ?_ _)); exact BK557.out)) : gb576 ≠ gb557)); have n15_ := Aside0.mk ((by rw [hg]; exact Nat.ne_of_lt (blk_lt (g := gb568) (o := .cells #[.int .i64 t561, .int .i64 t562, .slice Ao24 t563.length co24, .int .i64 t566] 26 (0, 0)) (by (with_reducible repeat (first | refine blk_drewN ?_ _ | refine blk_drew ?_ | refine blk_alloc ?_ _)); exact BK568.out)) : gb568 ≠ gb576)); have n16_ := Aside0.mk ((by rw [hg]; exact Nat.ne_of_gt (blk_lt (g := gb568) (o := .cells #[.int .i64 t561, .int .i64 t562, .slice Ao24 t563.length co24, .int .i64 t566] 26 (0, 0)) (by (with_reducible repeat (first | refine blk_drewN ?_ _ | refine blk_drew ?_ | refine blk_alloc ?_ _)); exact BK568.out)) : gb576 ≠ gb568)); clear HO555; clear HO560; clear HO565; clear HO573; clear BK550; clear BK557; clear BK568; clear HB; have HO555 := n0_; have HO560 := n1_; have HO565 := n2_; have HO573 := n3_; have BK550 := n4_; have BK557 := n5_; have BK568 := n6_; have HB := n7_; have BK576 := n8_; have GW576 := n9_; have GE576 := n10_; have NB550_576 := n11_; have NB576_550 := n12_; have NB557_576 := n13_; have NB576_557 := n14_; have NB568_576 := n15_; have NB576_568 := n16_; clear n0_ n1_ n2_ n3_ n4_ n5_ n6_ n7_ n8_ n9_ n10_ n11_ n12_ n13_ n14_ n15_ n16_; clear hb hbox hg; have hnb28 := NB576_550.out; have hnc28 := NB550_576.out; have hnb29 := NB576_557.out; have hnc29 := NB557_576.out; have hnb30 := NB576_568.out; have hnc30 := NB568_576.out; have hcz31_0 : w27.cell? ⟨gb576, 0, none⟩ = some (.int .i64 0) := (blk_cell BK576.out 0).trans rfl; have hcz31_1 : w27.cell? ⟨gb576, 1, none⟩ = some (.int .i64 0) := (blk_cell BK576.out 1).trans rfl; have hcz31_2 : w27.cell? ⟨gb576, 2, none⟩ = some (.slice none 0 0) := (blk_cell BK576.out 2).trans rfl; have hcz31_3 : w27.cell? ⟨gb576, 3, none⟩ = some (.int .i64 0) := (blk_cell BK576.out 3).trans rfl; have hfz31_0 := blk_frozen BK576.out 0; have hfz31_1 := blk_frozen BK576.out 1; have hfz31_2 := blk_frozen BK576.out 2; have hfz31_3 := blk_frozen BK576.out 3; obtain ⟨Ao32, co32, eo32⟩ := Kd.R_slice HO573.out; subst eo32))
    repeat (go_quiet (first | ((with_reducible refine gate_dst (N := 3) rfl ?_); refine box_event ?hg (N := 3) ?hd (cs := #[.int .i64 a0_0, .int .i64 a0_1, .slice A0_2 l0_2.length c0_2, .int .i64 a0_3]) (t := 26) ?hr ?_; (case hd => rfl); (case hg => rfl); (case hr => first | (go_simp; done) | (go_simp; rfl)); intro gb550 hg w9 hbox hb; have n0_ := Aside0.mk (below_step (by repeat (first | (with_reducible first | exact HB.out | apply below_alloc | apply pw_below_drewN | apply below_drew1) | exact HB.out)) hb); have n1_ := Aside0.mk (hbox); have n2_ := Aside0.mk ((by rw [hg]; exact (below_size (by repeat (first | (with_reducible first | exact HB.out | apply below_alloc | apply pw_below_drewN | apply below_drew1) | exact HB.out))) : w.heap.size ≤ gb550)); have n3_ := Aside0.mk ((by rw [hg]; exact (below_size (by repeat (first | (with_reducible first | exact HB.out | apply below_alloc | apply pw_below_drewN | apply below_drew1) | exact HB.out))) : w.heap.size ≤ gb550)); clear HB; have HB := n0_; have BK550 := n1_; have GW550 := n2_; have GE550 := n3_; clear n0_ n1_ n2_ n3_; clear hb hbox hg; have hcz10_0 : w9.cell? ⟨gb550, 0, none⟩ = some (.int .i64 a0_0) := (blk_cell BK550.out 0).trans rfl; have hcz10_1 : w9.cell? ⟨gb550, 1, none⟩ = some (.int .i64 a0_1) := (blk_cell BK550.out 1).trans rfl; have hcz10_2 : w9.cell? ⟨gb550, 2, none⟩ = some (.slice A0_2 l0_2.length c0_2) := (blk_cell BK550.out 2).trans rfl; have hcz10_3 : w9.cell? ⟨gb550, 3, none⟩ = some (.int .i64 a0_3) := (blk_cell BK550.out 3).trans rfl; have hfz10_0 := blk_frozen BK550.out 0; have hfz10_1 := blk_frozen BK550.out 1; have hfz10_2 := blk_frozen BK550.out 2; have hfz10_3 := blk_frozen BK550.out 3) | (go_at_call 13; (with_reducible refine (rialtoref08_Copy.calls a0_0 a0_1 _ _ l0_2 a0_3 t551 t552 t553 t556 _ ?side1 ?side2 A4.out).mono ?_); (case side1 => repeat (first | exact (Kd.C_below HR0_2.out HB.out) | (with_reducible refine Kd.C_alloc ?_ _) | (with_reducible refine Kd.C_drewN ?_ _) | (with_reducible refine Kd.C_drew ?_))); (case side2 => exact HC0_2.out); rintro e w11 ⟨v554, rfl, ho0, hb⟩; have n0_ := Aside0.mk (Kd.R_lower ho0 (below_size (by repeat (first | (with_reducible first | exact HB.out | apply below_alloc | apply pw_below_drewN | apply below_drew1 | refine below_set ?_ GE550.out) | exact HB.out)))); have n1_ := Aside0.mk (blk_below (g := gb550) (o := .cells #[.int .i64 a0_0, .int .i64 a0_1, .slice A0_2 l0_2.length c0_2, .int .i64 a0_3] 26 (0, 0)) (by (with_reducible repeat (first | refine blk_drewN ?_ _ | refine blk_drew ?_ | refine blk_alloc ?_ _)); exact BK550.out) hb); have n2_ := Aside0.mk (below_step (by repeat (first | (with_reducible first | exact HB.out | apply below_alloc | apply pw_below_drewN | apply below_drew1 | refine below_set ?_ GE550.out) | exact HB.out)) hb); clear BK550; clear HB; have HO555 := n0_; have BK550 := n1_; have HB := n2_; clear n0_ n1_ n2_; (try clear hb); (try clear hb2); (try clear hk); (try clear hi); (try clear ho0)) | ((with_reducible refine gate_dst (N := 7) rfl ?_); refine box_event ?hg (N := 7) ?hd (cs := #[.int .i64 0, .int .i64 0, .slice none 0 0, .int .i64 0]) (t := 26) ?hr ?_; (case hd => rfl); (case hg => rfl); (case hr => first | (go_simp; done) | (go_simp; rfl)); intro gb557 hg w12 hbox hb; have n0_ := Aside0.mk (Kd.R_below (by (with_reducible repeat (first | apply Kd.R_alloc | apply Kd.R_drewN | apply Kd.R_drew)); exact HO555.out) hb); have n1_ := Aside0.mk (blk_below (g := gb550) (o := .cells #[.int .i64 a0_0, .int .i64 a0_1, .slice A0_2 l0_2.length c0_2, .int .i64 a0_3] 26 (0, 0)) (by (with_reducible repeat (first | refine blk_drewN ?_ _ | refine blk_drew ?_ | refine blk_alloc ?_ _)); exact BK550.out) hb); have n2_ := Aside0.mk (below_step (by repeat (first | (with_reducible first | exact HB.out | apply below_alloc | apply pw_below_drewN | apply below_drew1 | refine below_set ?_ GE550.out) | exact HB.out)) hb); have n3_ := Aside0.mk (hbox); have n4_ := Aside0.mk ((by rw [hg]; exact (below_size (by repeat (first | (with_reducible first | exact HB.out | apply below_alloc | apply pw_below_drewN | apply below_drew1 | refine below_set ?_ GE550.out) | exact HB.out))) : w.heap.size ≤ gb557)); have n5_ := Aside0.mk ((by rw [hg]; exact (below_size (by repeat (first | (with_reducible first | exact HB.out | apply below_alloc | apply pw_below_drewN | apply below_drew1 | refine below_set ?_ GE550.out) | exact HB.out))) : w.heap.size ≤ gb557)); have n6_ := Aside0.mk ((by rw [hg]; exact Nat.ne_of_lt (blk_lt (g := gb550) (o := .cells #[.int .i64 a0_0, .int .i64 a0_1, .slice A0_2 l0_2.length c0_2, .int .i64 a0_3] 26 (0, 0)) (by (with_reducible repeat (first | refine blk_drewN ?_ _ | refine blk_drew ?_ | refine blk_alloc ?_ _)); exact BK550.out)) : gb550 ≠ gb557)); have n7_ := Aside0.mk ((by rw [hg]; exact Nat.ne_of_gt (blk_lt (g := gb550) (o := .cells #[.int .i64 a0_0, .int .i64 a0_1, .slice A0_2 l0_2.length c0_2, .int .i64 a0_3] 26 (0, 0)) (by (with_reducible repeat (first | refine blk_drewN ?_ _ | refine blk_drew ?_ | refine blk_alloc ?_ _)); exact BK550.out)) : gb557 ≠ gb550)); clear HO555; clear BK550; clear HB; have HO555 := n0_; have BK550 := n1_; have HB := n2_; have BK557 := n3_; have GW557 := n4_; have GE557 := n5_; have NB550_557 := n6_; have NB557_550 := n7_; clear n0_ n1_ n2_ n3_ n4_ n5_ n6_ n7_; clear hb hbox hg; have hnb13 := NB557_550.out; have hnc13 := NB550_557.out; have hcz14_0 : w12.cell? ⟨gb557, 0, none⟩ = some (.int .i64 0) := (blk_cell BK557.out 0).trans rfl; have hcz14_1 : w12.cell? ⟨gb557, 1, none⟩ = some (.int .i64 0) := (blk_cell BK557.out 1).trans rfl; have hcz14_2 : w12.cell? ⟨gb557, 2, none⟩ = some (.slice none 0 0) := (blk_cell BK557.out 2).trans rfl; have hcz14_3 : w12.cell? ⟨gb557, 3, none⟩ = some (.int .i64 0) := (blk_cell BK557.out 3).trans rfl; have hfz14_0 := blk_frozen BK557.out 0; have hfz14_1 := blk_frozen BK557.out 1; have hfz14_2 := blk_frozen BK557.out 2; have hfz14_3 := blk_frozen BK557.out 3; obtain ⟨Ao15, co15, eo15⟩ := Kd.R_slice HO555.out; subst eo15) | ((with_reducible refine gate_builtin (b := .append) (xs := #[.tmp 17, .tmp 18]) rfl ?_); at_builtin; refine Kd.R_append_rows (Kd.int .i64) (w0 := w) w.heap.size rfl (.tmp 17) (.tmp 18) 47 3 (.int .i64 0) 8 rfl Try.underlying47 info3 rfl (by decide) (by omega) (.slice none 0 0) ([] : List Int) l2 _ _ _ (fun _ => True) (fun _ => False) rfl rfl ?aO ?aR (fun _ _ h => h) (fun _ h => h.elim) ?aF ?aB ?aS ?aL ?_; (case aR => exact Kd.C_below HR2.out (by repeat (first | (with_reducible first | exact HB.out | apply below_alloc | apply pw_below_drewN | apply below_drew1 | refine below_set ?_ GE550.out | refine below_set ?_ GE557.out) | exact HB.out))); (case aB => exact (by repeat (first | (with_reducible first | exact HB.out | apply below_alloc | apply pw_below_drewN | apply below_drew1 | refine below_set ?_ GE550.out | refine below_set ?_ GE557.out) | exact HB.out))); (case aF => exact (fun _ _ => trivial)); (case aO => exact ((Kd.R_nil _ _ _ _ (fun _ => True)))); (case aS => exact (below_size (by repeat (first | (with_reducible first | exact HB.out | apply below_alloc | apply pw_below_drewN | apply below_drew1 | refine below_set ?_ GE550.out | refine below_set ?_ GE557.out) | exact HB.out)))); (case aL => have := LMc5.out; omega); intro v559 w16 ho hb hg hat; rw [← Ny558.out] at ho; have n0_ := Aside0.mk (blk_grown (g := gb550) (o := .cells #[.int .i64 a0_0, .int .i64 a0_1, .slice A0_2 l0_2.length c0_2, .int .i64 a0_3] 26 (0, 0)) (by (with_reducible repeat (first | refine blk_drewN ?_ _ | refine blk_drew ?_ | refine blk_alloc ?_ _)); refine blk_far ?_ NB550_557.out _; (with_reducible repeat (first | refine blk_drewN ?_ _ | refine blk_drew ?_ | refine blk_alloc ?_ _)); refine blk_far ?_ NB550_557.out _; (with_reducible repeat (first | refine blk_drewN ?_ _ | refine blk_drew ?_ | refine blk_alloc ?_ _)); refine blk_far ?_ NB550_557.out _; (with_reducible repeat (first | refine blk_drewN ?_ _ | refine blk_drew ?_ | refine blk_alloc ?_ _)); refine blk_far ?_ NB550_557.out _; (with_reducible repeat (first | refine blk_drewN ?_ _ | refine blk_drew ?_ | refine blk_alloc ?_ _)); exact BK550.out) hg (by simp [Value.ownBlock])); have n1_ := Aside0.mk (Kd.R_grown (by (with_reducible repeat (first | apply Kd.R_alloc | apply Kd.R_drewN | apply Kd.R_drew)); exact (Kd.R_mono (Kd.R_far (p := ⟨gb557, 3, none⟩) (Kd.R_far (p := ⟨gb557, 2, none⟩) (Kd.R_far (p := ⟨gb557, 1, none⟩) (Kd.R_far (p := ⟨gb557, 0, none⟩) (Kd.R_types HO555.out BK557.out (by decide)) (fun _ hk => hk.2) (.int .i64 t551)) (fun _ hk => hk.2) (.int .i64 t552)) (fun _ hk => hk.2) (.slice Ao15 t553.length co15)) (fun _ hk => hk.2) (.int .i64 t556)) (fun _ h_ => h_.1))) hg (fun _ _ => by simp [Value.ownBlock])); have n2_ := Aside0.mk (blk_grown (g := gb557) (o := .cells #[.int .i64 t551, .int .i64 t552, .slice Ao15 t553.length co15, .int .i64 t556] 26 (0, 0)) (by (with_reducible repeat (first | refine blk_drewN ?_ _ | refine blk_drew ?_ | refine blk_alloc ?_ _)); refine blk_put (cs := #[.int .i64 t551, .int .i64 t552, .slice Ao15 t553.length co15, .int .i64 0]) ?_ 3 _ rfl; (with_reducible repeat (first | refine blk_drewN ?_ _ | refine blk_drew ?_ | refine blk_alloc ?_ _)); refine blk_put (cs := #[.int .i64 t551, .int .i64 t552, .slice none 0 0, .int .i64 0]) ?_ 2 _ rfl; (with_reducible repeat (first | refine blk_drewN ?_ _ | refine blk_drew ?_ | refine blk_alloc ?_ _)); refine blk_put (cs := #[.int .i64 t551, .int .i64 0, .slice none 0 0, .int .i64 0]) ?_ 1 _ rfl; (with_reducible repeat (first | refine blk_drewN ?_ _ | refine blk_drew ?_ | refine blk_alloc ?_ _)); refine blk_put (cs := #[.int .i64 0, .int .i64 0, .slice none 0 0, .int .i64 0]) ?_ 0 _ rfl; (with_reducible repeat (first | refine blk_drewN ?_ _ | refine blk_drew ?_ | refine blk_alloc ?_ _)); exact BK557.out) hg (by simp [Value.ownBlock])); have n3_ := Aside0.mk (hb); have n4_ := Aside0.mk (ho); clear BK550; clear HO555; clear BK557; clear HB; have BK550 := n0_; have HO555 := n1_; have BK557 := n2_; have HB := n3_; have HO560 := n4_; clear n0_ n1_ n2_ n3_ n4_; clear ho hb hg hat; have hcz17_0 : w16.cell? ⟨gb557, 0, none⟩ = some (.int .i64 t551) := (blk_cell BK557.out 0).trans rfl; have hcz17_1 : w16.cell? ⟨gb557, 1, none⟩ = some (.int .i64 t552) := (blk_cell BK557.out 1).trans rfl; have hcz17_2 : w16.cell? ⟨gb557, 2, none⟩ = some (.slice Ao15 t553.length co15) := (blk_cell BK557.out 2).trans rfl; have hcz17_3 : w16.cell? ⟨gb557, 3, none⟩ = some (.int .i64 t556) := (blk_cell BK557.out 3).trans rfl; have hfz17_0 := blk_frozen BK557.out 0; have hfz17_1 := blk_frozen BK557.out 1; have hfz17_2 := blk_frozen BK557.out 2; have hfz17_3 := blk_frozen BK557.out 3; obtain ⟨Ao18, co18, eo18⟩ := Kd.R_slice HO560.out; subst eo18) | (go_at_call 25; (with_reducible refine (entries_Advance.calls k t551 t552 _ _ t553 t556 a1 _ _ y558 t561 t562 t563 t566 t567 _ ?side1 ?side2 ?side3 ?side4 A6.out).mono ?_); (case side1 => repeat (first | exact (Kd.R_reads' HO555.out).2.2 | (with_reducible refine Kd.C_alloc ?_ _) | (with_reducible refine Kd.C_drewN ?_ _) | (with_reducible refine Kd.C_drew ?_))); (case side2 => exact (Kd.R_reads' HO555.out).2.1); (case side3 => repeat (first | exact (Kd.R_reads' HO560.out).2.2 | (with_reducible refine Kd.C_alloc ?_ _) | (with_reducible refine Kd.C_drewN ?_ _) | (with_reducible refine Kd.C_drew ?_))); (case side4 => exact (Kd.R_reads' HO560.out).2.1); rintro e w19 ⟨v564, rfl, ho0, hb⟩; have n0_ := Aside0.mk (Kd.R_elder' (by (with_reducible repeat (first | apply Kd.R_alloc | apply Kd.R_drewN | apply Kd.R_drew)); exact HO555.out) (Kd.R_base ho0) hb); have n1_ := Aside0.mk (Kd.R_below (by (with_reducible repeat (first | apply Kd.R_alloc | apply Kd.R_drewN | apply Kd.R_drew)); exact HO560.out) hb); have n2_ := Aside0.mk (Kd.R_lower (Kd.R_new' ho0 (Kd.R_lt (by (with_reducible repeat (first | apply Kd.R_alloc | apply Kd.R_drewN | apply Kd.R_drew)); exact HO555.out))) (below_size (by repeat (first | (with_reducible first | exact HB.out | apply below_alloc | apply pw_below_drewN | apply below_drew1 | refine below_set ?_ GE550.out | refine below_set ?_ GE557.out) | exact HB.out)))); have n3_ := Aside0.mk (blk_below (g := gb550) (o := .cells #[.int .i64 a0_0, .int .i64 a0_1, .slice A0_2 l0_2.length c0_2, .int .i64 a0_3] 26 (0, 0)) (by (with_reducible repeat (first | refine blk_drewN ?_ _ | refine blk_drew ?_ | refine blk_alloc ?_ _)); exact BK550.out) hb); have n4_ := Aside0.mk (blk_below (g := gb557) (o := .cells #[.int .i64 t551, .int .i64 t552, .slice Ao15 t553.length co15, .int .i64 t556] 26 (0, 0)) (by (with_reducible repeat (first | refine blk_drewN ?_ _ | refine blk_drew ?_ | refine blk_alloc ?_ _)); exact BK557.out) hb); have n5_ := Aside0.mk (below_step (by repeat (first | (with_reducible first | exact HB.out | apply below_alloc | apply pw_below_drewN | apply below_drew1 | refine below_set ?_ GE550.out | refine below_set ?_ GE557.out) | exact HB.out)) hb); clear HO555; clear HO560; clear BK550; clear BK557; clear HB; have HO555 := n0_; have HO560 := n1_; have HO565 := n2_; have BK550 := n3_; have BK557 := n4_; have HB := n5_; clear n0_ n1_ n2_ n3_ n4_ n5_; (try clear hb); (try clear hb2); (try clear hk); (try clear hi); (try clear ho0)) | ((with_reducible refine gate_dst (N := 9) rfl ?_); refine box_event ?hg (N := 9) ?hd (cs := #[.int .i64 0, .int .i64 0, .slice none 0 0, .int .i64 0]) (t := 26) ?hr ?_; (case hd => rfl); (case hg => rfl); (case hr => first | (go_simp; done) | (go_simp; rfl)); intro gb568 hg w20 hbox hb; have n0_ := Aside0.mk (Kd.R_below (by (with_reducible repeat (first | apply Kd.R_alloc | apply Kd.R_drewN | apply Kd.R_drew)); exact HO555.out) hb); have n1_ := Aside0.mk (Kd.R_below (by (with_reducible repeat (first | apply Kd.R_alloc | apply Kd.R_drewN | apply Kd.R_drew)); exact HO560.out) hb); have n2_ := Aside0.mk (Kd.R_below (by (with_reducible repeat (first | apply Kd.R_alloc | apply Kd.R_drewN | apply Kd.R_drew)); exact HO565.out) hb); have n3_ := Aside0.mk (blk_below (g := gb550) (o := .cells #[.int .i64 a0_0, .int .i64 a0_1, .slice A0_2 l0_2.length c0_2, .int .i64 a0_3] 26 (0, 0)) (by (with_reducible repeat (first | refine blk_drewN ?_ _ | refine blk_drew ?_ | refine blk_alloc ?_ _)); exact BK550.out) hb); have n4_ := Aside0.mk (blk_below (g := gb557) (o := .cells #[.int .i64 t551, .int .i64 t552, .slice Ao15 t553.length co15, .int .i64 t556] 26 (0, 0)) (by (with_reducible repeat (first | refine blk_drewN ?_ _ | refine blk_drew ?_ | refine blk_alloc ?_ _)); exact BK557.out) hb); have n5_ := Aside0.mk (below_step (by repeat (first | (with_reducible first | exact HB.out | apply below_alloc | apply pw_below_drewN | apply below_drew1 | refine below_set ?_ GE550.out | refine below_set ?_ GE557.out) | exact HB.out)) hb); have n6_ := Aside0.mk (hbox); have n7_ := Aside0.mk ((by rw [hg]; exact (below_size (by repeat (first | (with_reducible first | exact HB.out | apply below_alloc | apply pw_below_drewN | apply below_drew1 | refine below_set ?_ GE550.out | refine below_set ?_ GE557.out) | exact HB.out))) : w.heap.size ≤ gb568)); have n8_ := Aside0.mk ((by rw [hg]; exact (below_size (by repeat (first | (with_reducible first | exact HB.out | apply below_alloc | apply pw_below_drewN | apply below_drew1 | refine below_set ?_ GE550.out | refine below_set ?_ GE557.out) | exact HB.out))) : w.heap.size ≤ gb568)); have n9_ := Aside0.mk ((by rw [hg]; exact Nat.ne_of_lt (blk_lt (g := gb550) (o := .cells #[.int .i64 a0_0, .int .i64 a0_1, .slice A0_2 l0_2.length c0_2, .int .i64 a0_3] 26 (0, 0)) (by (with_reducible repeat (first | refine blk_drewN ?_ _ | refine blk_drew ?_ | refine blk_alloc ?_ _)); exact BK550.out)) : gb550 ≠ gb568)); have n10_ := Aside0.mk ((by rw [hg]; exact Nat.ne_of_gt (blk_lt (g := gb550) (o := .cells #[.int .i64 a0_0, .int .i64 a0_1, .slice A0_2 l0_2.length c0_2, .int .i64 a0_3] 26 (0, 0)) (by (with_reducible repeat (first | refine blk_drewN ?_ _ | refine blk_drew ?_ | refine blk_alloc ?_ _)); exact BK550.out)) : gb568 ≠ gb550)); have n11_ := Aside0.mk ((by rw [hg]; exact Nat.ne_of_lt (blk_lt (g := gb557) (o := .cells #[.int .i64 t551, .int .i64 t552, .slice Ao15 t553.length co15, .int .i64 t556] 26 (0, 0)) (by (with_reducible repeat (first | refine blk_drewN ?_ _ | refine blk_drew ?_ | refine blk_alloc ?_ _)); exact BK557.out)) : gb557 ≠ gb568)); have n12_ := Aside0.mk ((by rw [hg]; exact Nat.ne_of_gt (blk_lt (g := gb557) (o := .cells #[.int .i64 t551, .int .i64 t552, .slice Ao15 t553.length co15, .int .i64 t556] 26 (0, 0)) (by (with_reducible repeat (first | refine blk_drewN ?_ _ | refine blk_drew ?_ | refine blk_alloc ?_ _)); exact BK557.out)) : gb568 ≠ gb557)); clear HO555; clear HO560; clear HO565; clear BK550; clear BK557; clear HB; have HO555 := n0_; have HO560 := n1_; have HO565 := n2_; have BK550 := n3_; have BK557 := n4_; have HB := n5_; have BK568 := n6_; have GW568 := n7_; have GE568 := n8_; have NB550_568 := n9_; have NB568_550 := n10_; have NB557_568 := n11_; have NB568_557 := n12_; clear n0_ n1_ n2_ n3_ n4_ n5_ n6_ n7_ n8_ n9_ n10_ n11_ n12_; clear hb hbox hg; have hnb21 := NB568_550.out; have hnc21 := NB550_568.out; have hnb22 := NB568_557.out; have hnc22 := NB557_568.out; have hcz23_0 : w20.cell? ⟨gb568, 0, none⟩ = some (.int .i64 0) := (blk_cell BK568.out 0).trans rfl; have hcz23_1 : w20.cell? ⟨gb568, 1, none⟩ = some (.int .i64 0) := (blk_cell BK568.out 1).trans rfl; have hcz23_2 : w20.cell? ⟨gb568, 2, none⟩ = some (.slice none 0 0) := (blk_cell BK568.out 2).trans rfl; have hcz23_3 : w20.cell? ⟨gb568, 3, none⟩ = some (.int .i64 0) := (blk_cell BK568.out 3).trans rfl; have hfz23_0 := blk_frozen BK568.out 0; have hfz23_1 := blk_frozen BK568.out 1; have hfz23_2 := blk_frozen BK568.out 2; have hfz23_3 := blk_frozen BK568.out 3; obtain ⟨Ao24, co24, eo24⟩ := Kd.R_slice HO565.out; subst eo24; have hcz25_0 : w20.cell? ⟨gb550, 0, none⟩ = some (.int .i64 a0_0) := (blk_cell BK550.out 0).trans rfl; have hcz25_1 : w20.cell? ⟨gb550, 1, none⟩ = some (.int .i64 a0_1) := (blk_cell BK550.out 1).trans rfl; have hcz25_2 : w20.cell? ⟨gb550, 2, none⟩ = some (.slice A0_2 l0_2.length c0_2) := (blk_cell BK550.out 2).trans rfl; have hcz25_3 : w20.cell? ⟨gb550, 3, none⟩ = some (.int .i64 a0_3) := (blk_cell BK550.out 3).trans rfl; have hfz25_0 := blk_frozen BK550.out 0; have hfz25_1 := blk_frozen BK550.out 1; have hfz25_2 := blk_frozen BK550.out 2; have hfz25_3 := blk_frozen BK550.out 3) | (go_at_call 26; (with_reducible refine (rialtoref08_Advance.calls k a0_0 a0_1 _ _ l0_2 a0_3 a1 _ _ l2 t569 t570 t571 t574 t575 _ ?side1 ?side2 ?side3 ?side4 A7.out).mono ?_); (case side1 => exact Kd.C_below HR0_2.out (by repeat (first | (with_reducible first | exact HB.out | apply below_alloc | apply pw_below_drewN | apply below_drew1 | refine below_set ?_ GE550.out | refine below_set ?_ GE557.out | refine below_set ?_ GE568.out) | exact HB.out))); (case side2 => exact HC0_2.out); (case side3 => exact Kd.C_below HR2.out (by repeat (first | (with_reducible first | exact HB.out | apply below_alloc | apply pw_below_drewN | apply below_drew1 | refine below_set ?_ GE550.out | refine below_set ?_ GE557.out | refine below_set ?_ GE568.out) | exact HB.out))); (case side4 => exact HC2.out); rintro e w26 ⟨v572, rfl, ho0, hb⟩; have n0_ := Aside0.mk (Kd.R_elder' (by (with_reducible repeat (first | apply Kd.R_alloc | apply Kd.R_drewN | apply Kd.R_drew)); exact (Kd.R_mono (Kd.R_far (p := ⟨gb568, 3, none⟩) (Kd.R_far (p := ⟨gb568, 2, none⟩) (Kd.R_far (p := ⟨gb568, 1, none⟩) (Kd.R_far (p := ⟨gb568, 0, none⟩) (Kd.R_types HO555.out BK568.out (by decide)) (fun _ hk => hk.2) (.int .i64 t561)) (fun _ hk => hk.2) (.int .i64 t562)) (fun _ hk => hk.2) (.slice Ao24 t563.length co24)) (fun _ hk => hk.2) (.int .i64 t566)) (fun _ h_ => h_.1))) (Kd.R_base ho0) hb); have n1_ := Aside0.mk (Kd.R_below (by (with_reducible repeat (first | apply Kd.R_alloc | apply Kd.R_drewN | apply Kd.R_drew)); exact (Kd.R_mono (Kd.R_far (p := ⟨gb568, 3, none⟩) (Kd.R_far (p := ⟨gb568, 2, none⟩) (Kd.R_far (p := ⟨gb568, 1, none⟩) (Kd.R_far (p := ⟨gb568, 0, none⟩) (Kd.R_types HO560.out BK568.out (by decide)) (fun _ hk => hk.2) (.int .i64 t561)) (fun _ hk => hk.2) (.int .i64 t562)) (fun _ hk => hk.2) (.slice Ao24 t563.length co24)) (fun _ hk => hk.2) (.int .i64 t566)) (fun _ h_ => h_.1))) hb); have n2_ := Aside0.mk (Kd.R_elder' (by (with_reducible repeat (first | apply Kd.R_alloc | apply Kd.R_drewN | apply Kd.R_drew)); exact (Kd.R_mono (Kd.R_far (p := ⟨gb568, 3, none⟩) (Kd.R_far (p := ⟨gb568, 2, none⟩) (Kd.R_far (p := ⟨gb568, 1, none⟩) (Kd.R_far (p := ⟨gb568, 0, none⟩) (Kd.R_types HO565.out BK568.out (by decide)) (fun _ hk => hk.2) (.int .i64 t561)) (fun _ hk => hk.2) (.int .i64 t562)) (fun _ hk => hk.2) (.slice Ao24 t563.length co24)) (fun _ hk => hk.2) (.int .i64 t566)) (fun _ h_ => h_.1))) (Kd.R_base ho0) hb); have n3_ := Aside0.mk (Kd.R_lower (Kd.R_new' (Kd.R_new' ho0 (Kd.R_lt (by (with_reducible repeat (first | apply Kd.R_alloc | apply Kd.R_drewN | apply Kd.R_drew)); exact (Kd.R_mono (Kd.R_far (p := ⟨gb568, 3, none⟩) (Kd.R_far (p := ⟨gb568, 2, none⟩) (Kd.R_far (p := ⟨gb568, 1, none⟩) (Kd.R_far (p := ⟨gb568, 0, none⟩) (Kd.R_types HO555.out BK568.out (by decide)) (fun _ hk => hk.2) (.int .i64 t561)) (fun _ hk => hk.2) (.int .i64 t562)) (fun _ hk => hk.2) (.slice Ao24 t563.length co24)) (fun _ hk => hk.2) (.int .i64 t566)) (fun _ h_ => h_.1))))) (Kd.R_lt (by (with_reducible repeat (first | apply Kd.R_alloc | apply Kd.R_drewN | apply Kd.R_drew)); exact (Kd.R_mono (Kd.R_far (p := ⟨gb568, 3, none⟩) (Kd.R_far (p := ⟨gb568, 2, none⟩) (Kd.R_far (p := ⟨gb568, 1, none⟩) (Kd.R_far (p := ⟨gb568, 0, none⟩) (Kd.R_types HO565.out BK568.out (by decide)) (fun _ hk => hk.2) (.int .i64 t561)) (fun _ hk => hk.2) (.int .i64 t562)) (fun _ hk => hk.2) (.slice Ao24 t563.length co24)) (fun _ hk => hk.2) (.int .i64 t566)) (fun _ h_ => h_.1))))) (below_size (by repeat (first | (with_reducible first | exact HB.out | apply below_alloc | apply pw_below_drewN | apply below_drew1 | refine below_set ?_ GE550.out | refine below_set ?_ GE557.out | refine below_set ?_ GE568.out) | exact HB.out)))); have n4_ := Aside0.mk (blk_below (g := gb550) (o := .cells #[.int .i64 a0_0, .int .i64 a0_1, .slice A0_2 l0_2.length c0_2, .int .i64 a0_3] 26 (0, 0)) (by (with_reducible repeat (first | refine blk_drewN ?_ _ | refine blk_drew ?_ | refine blk_alloc ?_ _)); refine blk_far ?_ NB550_568.out _; (with_reducible repeat (first | refine blk_drewN ?_ _ | refine blk_drew ?_ | refine blk_alloc ?_ _)); refine blk_far ?_ NB550_568.out _; (with_reducible repeat (first | refine blk_drewN ?_ _ | refine blk_drew ?_ | refine blk_alloc ?_ _)); refine blk_far ?_ NB550_568.out _; (with_reducible repeat (first | refine blk_drewN ?_ _ | refine blk_drew ?_ | refine blk_alloc ?_ _)); refine blk_far ?_ NB550_568.out _; (with_reducible repeat (first | refine blk_drewN ?_ _ | refine blk_drew ?_ | refine blk_alloc ?_ _)); exact BK550.out) hb); have n5_ := Aside0.mk (blk_below (g := gb557) (o := .cells #[.int .i64 t551, .int .i64 t552, .slice Ao15 t553.length co15, .int .i64 t556] 26 (0, 0)) (by (with_reducible repeat (first | refine blk_drewN ?_ _ | refine blk_drew ?_ | refine blk_alloc ?_ _)); refine blk_far ?_ NB557_568.out _; (with_reducible repeat (first | refine blk_drewN ?_ _ | refine blk_drew ?_ | refine blk_alloc ?_ _)); refine blk_far ?_ NB557_568.out _; (with_reducible repeat (first | refine blk_drewN ?_ _ | refine blk_drew ?_ | refine blk_alloc ?_ _)); refine blk_far ?_ NB557_568.out _; (with_reducible repeat (first | refine blk_drewN ?_ _ | refine blk_drew ?_ | refine blk_alloc ?_ _)); refine blk_far ?_ NB557_568.out _; (with_reducible repeat (first | refine blk_drewN ?_ _ | refine blk_drew ?_ | refine blk_alloc ?_ _)); exact BK557.out) hb); have n6_ := Aside0.mk (blk_below (g := gb568) (o := .cells #[.int .i64 t561, .int .i64 t562, .slice Ao24 t563.length co24, .int .i64 t566] 26 (0, 0)) (by (with_reducible repeat (first | refine blk_drewN ?_ _ | refine blk_drew ?_ | refine blk_alloc ?_ _)); refine blk_put (cs := #[.int .i64 t561, .int .i64 t562, .slice Ao24 t563.length co24, .int .i64 0]) ?_ 3 _ rfl; (with_reducible repeat (first | refine blk_drewN ?_ _ | refine blk_drew ?_ | refine blk_alloc ?_ _)); refine blk_put (cs := #[.int .i64 t561, .int .i64 t562, .slice none 0 0, .int .i64 0]) ?_ 2 _ rfl; (with_reducible repeat (first | refine blk_drewN ?_ _ | refine blk_drew ?_ | refine blk_alloc ?_ _)); refine blk_put (cs := #[.int .i64 t561, .int .i64 0, .slice none 0 0, .int .i64 0]) ?_ 1 _ rfl; (with_reducible repeat (first | refine blk_drewN ?_ _ | refine blk_drew ?_ | refine blk_alloc ?_ _)); refine blk_put (cs := #[.int .i64 0, .int .i64 0, .slice none 0 0, .int .i64 0]) ?_ 0 _ rfl; (with_reducible repeat (first | refine blk_drewN ?_ _ | refine blk_drew ?_ | refine blk_alloc ?_ _)); exact BK568.out) hb); have n7_ := Aside0.mk (below_step (by repeat (first | (with_reducible first | exact HB.out | apply below_alloc | apply pw_below_drewN | apply below_drew1 | refine below_set ?_ GE550.out | refine below_set ?_ GE557.out | refine below_set ?_ GE568.out) | exact HB.out)) hb); clear HO555; clear HO560; clear HO565; clear BK550; clear BK557; clear BK568; clear HB; have HO555 := n0_; have HO560 := n1_; have HO565 := n2_; have HO573 := n3_; have BK550 := n4_; have BK557 := n5_; have BK568 := n6_; have HB := n7_; clear n0_ n1_ n2_ n3_ n4_ n5_ n6_ n7_; (try clear hb); (try clear hb2); (try clear hk); (try clear hi); (try clear ho0)) | ((with_reducible refine gate_dst (N := 11) rfl ?_); refine box_event ?hg (N := 11) ?hd (cs := #[.int .i64 0, .int .i64 0, .slice none 0 0, .int .i64 0]) (t := 26) ?hr ?_; (case hd => rfl); (case hg => rfl); (case hr => first | (go_simp; done) | (go_simp; rfl)); intro gb576 hg w27 hbox hb; have n0_ := Aside0.mk (Kd.R_below (by (with_reducible repeat (first | apply Kd.R_alloc | apply Kd.R_drewN | apply Kd.R_drew)); exact HO555.out) hb); have n1_ := Aside0.mk (Kd.R_below (by (with_reducible repeat (first | apply Kd.R_alloc | apply Kd.R_drewN | apply Kd.R_drew)); exact HO560.out) hb); have n2_ := Aside0.mk (Kd.R_below (by (with_reducible repeat (first | apply Kd.R_alloc | apply Kd.R_drewN | apply Kd.R_drew)); exact HO565.out) hb); have n3_ := Aside0.mk (Kd.R_below (by (with_reducible repeat (first | apply Kd.R_alloc | apply Kd.R_drewN | apply Kd.R_drew)); exact HO573.out) hb); have n4_ := Aside0.mk (blk_below (g := gb550) (o := .cells #[.int .i64 a0_0, .int .i64 a0_1, .slice A0_2 l0_2.length c0_2, .int .i64 a0_3] 26 (0, 0)) (by (with_reducible repeat (first | refine blk_drewN ?_ _ | refine blk_drew ?_ | refine blk_alloc ?_ _)); exact BK550.out) hb); have n5_ := Aside0.mk (blk_below (g := gb557) (o := .cells #[.int .i64 t551, .int .i64 t552, .slice Ao15 t553.length co15, .int .i64 t556] 26 (0, 0)) (by (with_reducible repeat (first | refine blk_drewN ?_ _ | refine blk_drew ?_ | refine blk_alloc ?_ _)); exact BK557.out) hb); have n6_ := Aside0.mk (blk_below (g := gb568) (o := .cells #[.int .i64 t561, .int .i64 t562, .slice Ao24 t563.length co24, .int .i64 t566] 26 (0, 0)) (by (with_reducible repeat (first | refine blk_drewN ?_ _ | refine blk_drew ?_ | refine blk_alloc ?_ _)); exact BK568.out) hb); have n7_ := Aside0.mk (below_step (by repeat (first | (with_reducible first | exact HB.out | apply below_alloc | apply pw_below_drewN | apply below_drew1 | refine below_set ?_ GE550.out | refine below_set ?_ GE557.out | refine below_set ?_ GE568.out) | exact HB.out)) hb); have n8_ := Aside0.mk (hbox); have n9_ := Aside0.mk ((by rw [hg]; exact (below_size (by repeat (first | (with_reducible first | exact HB.out | apply below_alloc | apply pw_below_drewN | apply below_drew1 | refine below_set ?_ GE550.out | refine below_set ?_ GE557.out | refine below_set ?_ GE568.out) | exact HB.out))) : w.heap.size ≤ gb576)); have n10_ := Aside0.mk ((by rw [hg]; exact (below_size (by repeat (first | (with_reducible first | exact HB.out | apply below_alloc | apply pw_below_drewN | apply below_drew1 | refine below_set ?_ GE550.out | refine below_set ?_ GE557.out | refine below_set ?_ GE568.out) | exact HB.out))) : w.heap.size ≤ gb576)); have n11_ := Aside0.mk ((by rw [hg]; exact Nat.ne_of_lt (blk_lt (g := gb550) (o := .cells #[.int .i64 a0_0, .int .i64 a0_1, .slice A0_2 l0_2.length c0_2, .int .i64 a0_3] 26 (0, 0)) (by (with_reducible repeat (first | refine blk_drewN ?_ _ | refine blk_drew ?_ | refine blk_alloc ?_ _)); exact BK550.out)) : gb550 ≠ gb576)); have n12_ := Aside0.mk ((by rw [hg]; exact Nat.ne_of_gt (blk_lt (g := gb550) (o := .cells #[.int .i64 a0_0, .int .i64 a0_1, .slice A0_2 l0_2.length c0_2, .int .i64 a0_3] 26 (0, 0)) (by (with_reducible repeat (first | refine blk_drewN ?_ _ | refine blk_drew ?_ | refine blk_alloc ?_ _)); exact BK550.out)) : gb576 ≠ gb550)); have n13_ := Aside0.mk ((by rw [hg]; exact Nat.ne_of_lt (blk_lt (g := gb557) (o := .cells #[.int .i64 t551, .int .i64 t552, .slice Ao15 t553.length co15, .int .i64 t556] 26 (0, 0)) (by (with_reducible repeat (first | refine blk_drewN ?_ _ | refine blk_drew ?_ | refine blk_alloc ?_ _)); exact BK557.out)) : gb557 ≠ gb576)); have n14_ := Aside0.mk ((by rw [hg]; exact Nat.ne_of_gt (blk_lt (g := gb557) (o := .cells #[.int .i64 t551, .int .i64 t552, .slice Ao15 t553.length co15, .int .i64 t556] 26 (0, 0)) (by (with_reducible repeat (first | refine blk_drewN ?_ _ | refine blk_drew ?_ | refine blk_alloc ?_ _)); exact BK557.out)) : gb576 ≠ gb557)); have n15_ := Aside0.mk ((by rw [hg]; exact Nat.ne_of_lt (blk_lt (g := gb568) (o := .cells #[.int .i64 t561, .int .i64 t562, .slice Ao24 t563.length co24, .int .i64 t566] 26 (0, 0)) (by (with_reducible repeat (first | refine blk_drewN ?_ _ | refine blk_drew ?_ | refine blk_alloc ?_ _)); exact BK568.out)) : gb568 ≠ gb576)); have n16_ := Aside0.mk ((by rw [hg]; exact Nat.ne_of_gt (blk_lt (g := gb568) (o := .cells #[.int .i64 t561, .int .i64 t562, .slice Ao24 t563.length co24, .int .i64 t566] 26 (0, 0)) (by (with_reducible repeat (first | refine blk_drewN ?_ _ | refine blk_drew ?_ | refine blk_alloc ?_ _)); exact BK568.out)) : gb576 ≠ gb568)); clear HO555; clear HO560; clear HO565; clear HO573; clear BK550; clear BK557; clear BK568; clear HB; have HO555 := n0_; have HO560 := n1_; have HO565 := n2_; have HO573 := n3_; have BK550 := n4_; have BK557 := n5_; have BK568 := n6_; have HB := n7_; have BK576 := n8_; have GW576 := n9_; have GE576 := n10_; have NB550_576 := n11_; have NB576_550 := n12_; have NB557_576 := n13_; have NB576_557 := n14_; have NB568_576 := n15_; have NB576_568 := n16_; clear n0_ n1_ n2_ n3_ n4_ n5_ n6_ n7_ n8_ n9_ n10_ n11_ n12_ n13_ n14_ n15_ n16_; clear hb hbox hg; have hnb28 := NB576_550.out; have hnc28 := NB550_576.out; have hnb29 := NB576_557.out; have hnc29 := NB557_576.out; have hnb30 := NB576_568.out; have hnc30 := NB568_576.out; have hcz31_0 : w27.cell? ⟨gb576, 0, none⟩ = some (.int .i64 0) := (blk_cell BK576.out 0).trans rfl; have hcz31_1 : w27.cell? ⟨gb576, 1, none⟩ = some (.int .i64 0) := (blk_cell BK576.out 1).trans rfl; have hcz31_2 : w27.cell? ⟨gb576, 2, none⟩ = some (.slice none 0 0) := (blk_cell BK576.out 2).trans rfl; have hcz31_3 : w27.cell? ⟨gb576, 3, none⟩ = some (.int .i64 0) := (blk_cell BK576.out 3).trans rfl; have hfz31_0 := blk_frozen BK576.out 0; have hfz31_1 := blk_frozen BK576.out 1; have hfz31_2 := blk_frozen BK576.out 2; have hfz31_3 := blk_frozen BK576.out 3; obtain ⟨Ao32, co32, eo32⟩ := Kd.R_slice HO573.out; subst eo32)); go_upto_region 6 with (first | ((with_reducible refine gate_dst (N := 3) rfl ?_); refine box_event ?hg (N := 3) ?hd (cs := #[.int .i64 a0_0, .int .i64 a0_1, .slice A0_2 l0_2.length c0_2, .int .i64 a0_3]) (t := 26) ?hr ?_; (case hd => rfl); (case hg => rfl); (case hr => first | (go_simp; done) | (go_simp; rfl)); intro gb550 hg w9 hbox hb; have n0_ := Aside0.mk (below_step (by repeat (first | (with_reducible first | exact HB.out | apply below_alloc | apply pw_below_drewN | apply below_drew1) | exact HB.out)) hb); have n1_ := Aside0.mk (hbox); have n2_ := Aside0.mk ((by rw [hg]; exact (below_size (by repeat (first | (with_reducible first | exact HB.out | apply below_alloc | apply pw_below_drewN | apply below_drew1) | exact HB.out))) : w.heap.size ≤ gb550)); have n3_ := Aside0.mk ((by rw [hg]; exact (below_size (by repeat (first | (with_reducible first | exact HB.out | apply below_alloc | apply pw_below_drewN | apply below_drew1) | exact HB.out))) : w.heap.size ≤ gb550)); clear HB; have HB := n0_; have BK550 := n1_; have GW550 := n2_; have GE550 := n3_; clear n0_ n1_ n2_ n3_; clear hb hbox hg; have hcz10_0 : w9.cell? ⟨gb550, 0, none⟩ = some (.int .i64 a0_0) := (blk_cell BK550.out 0).trans rfl; have hcz10_1 : w9.cell? ⟨gb550, 1, none⟩ = some (.int .i64 a0_1) := (blk_cell BK550.out 1).trans rfl; have hcz10_2 : w9.cell? ⟨gb550, 2, none⟩ = some (.slice A0_2 l0_2.length c0_2) := (blk_cell BK550.out 2).trans rfl; have hcz10_3 : w9.cell? ⟨gb550, 3, none⟩ = some (.int .i64 a0_3) := (blk_cell BK550.out 3).trans rfl; have hfz10_0 := blk_frozen BK550.out 0; have hfz10_1 := blk_frozen BK550.out 1; have hfz10_2 := blk_frozen BK550.out 2; have hfz10_3 := blk_frozen BK550.out 3) | (go_at_call 13; (with_reducible refine (rialtoref08_Copy.calls a0_0 a0_1 _ _ l0_2 a0_3 t551 t552 t553 t556 _ ?side1 ?side2 A4.out).mono ?_); (case side1 => repeat (first | exact (Kd.C_below HR0_2.out HB.out) | (with_reducible refine Kd.C_alloc ?_ _) | (with_reducible refine Kd.C_drewN ?_ _) | (with_reducible refine Kd.C_drew ?_))); (case side2 => exact HC0_2.out); rintro e w11 ⟨v554, rfl, ho0, hb⟩; have n0_ := Aside0.mk (Kd.R_lower ho0 (below_size (by repeat (first | (with_reducible first | exact HB.out | apply below_alloc | apply pw_below_drewN | apply below_drew1 | refine below_set ?_ GE550.out) | exact HB.out)))); have n1_ := Aside0.mk (blk_below (g := gb550) (o := .cells #[.int .i64 a0_0, .int .i64 a0_1, .slice A0_2 l0_2.length c0_2, .int .i64 a0_3] 26 (0, 0)) (by (with_reducible repeat (first | refine blk_drewN ?_ _ | refine blk_drew ?_ | refine blk_alloc ?_ _)); exact BK550.out) hb); have n2_ := Aside0.mk (below_step (by repeat (first | (with_reducible first | exact HB.out | apply below_alloc | apply pw_below_drewN | apply below_drew1 | refine below_set ?_ GE550.out) | exact HB.out)) hb); clear BK550; clear HB; have HO555 := n0_; have BK550 := n1_; have HB := n2_; clear n0_ n1_ n2_; (try clear hb); (try clear hb2); (try clear hk); (try clear hi); (try clear ho0)) | ((with_reducible refine gate_dst (N := 7) rfl ?_); refine box_event ?hg (N := 7) ?hd (cs := #[.int .i64 0, .int .i64 0, .slice none 0 0, .int .i64 0]) (t := 26) ?hr ?_; (case hd => rfl); (case hg => rfl); (case hr => first | (go_simp; done) | (go_simp; rfl)); intro gb557 hg w12 hbox hb; have n0_ := Aside0.mk (Kd.R_below (by (with_reducible repeat (first | apply Kd.R_alloc | apply Kd.R_drewN | apply Kd.R_drew)); exact HO555.out) hb); have n1_ := Aside0.mk (blk_below (g := gb550) (o := .cells #[.int .i64 a0_0, .int .i64 a0_1, .slice A0_2 l0_2.length c0_2, .int .i64 a0_3] 26 (0, 0)) (by (with_reducible repeat (first | refine blk_drewN ?_ _ | refine blk_drew ?_ | refine blk_alloc ?_ _)); exact BK550.out) hb); have n2_ := Aside0.mk (below_step (by repeat (first | (with_reducible first | exact HB.out | apply below_alloc | apply pw_below_drewN | apply below_drew1 | refine below_set ?_ GE550.out) | exact HB.out)) hb); have n3_ := Aside0.mk (hbox); have n4_ := Aside0.mk ((by rw [hg]; exact (below_size (by repeat (first | (with_reducible first | exact HB.out | apply below_alloc | apply pw_below_drewN | apply below_drew1 | refine below_set ?_ GE550.out) | exact HB.out))) : w.heap.size ≤ gb557)); have n5_ := Aside0.mk ((by rw [hg]; exact (below_size (by repeat (first | (with_reducible first | exact HB.out | apply below_alloc | apply pw_below_drewN | apply below_drew1 | refine below_set ?_ GE550.out) | exact HB.out))) : w.heap.size ≤ gb557)); have n6_ := Aside0.mk ((by rw [hg]; exact Nat.ne_of_lt (blk_lt (g := gb550) (o := .cells #[.int .i64 a0_0, .int .i64 a0_1, .slice A0_2 l0_2.length c0_2, .int .i64 a0_3] 26 (0, 0)) (by (with_reducible repeat (first | refine blk_drewN ?_ _ | refine blk_drew ?_ | refine blk_alloc ?_ _)); exact BK550.out)) : gb550 ≠ gb557)); have n7_ := Aside0.mk ((by rw [hg]; exact Nat.ne_of_gt (blk_lt (g := gb550) (o := .cells #[.int .i64 a0_0, .int .i64 a0_1, .slice A0_2 l0_2.length c0_2, .int .i64 a0_3] 26 (0, 0)) (by (with_reducible repeat (first | refine blk_drewN ?_ _ | refine blk_drew ?_ | refine blk_alloc ?_ _)); exact BK550.out)) : gb557 ≠ gb550)); clear HO555; clear BK550; clear HB; have HO555 := n0_; have BK550 := n1_; have HB := n2_; have BK557 := n3_; have GW557 := n4_; have GE557 := n5_; have NB550_557 := n6_; have NB557_550 := n7_; clear n0_ n1_ n2_ n3_ n4_ n5_ n6_ n7_; clear hb hbox hg; have hnb13 := NB557_550.out; have hnc13 := NB550_557.out; have hcz14_0 : w12.cell? ⟨gb557, 0, none⟩ = some (.int .i64 0) := (blk_cell BK557.out 0).trans rfl; have hcz14_1 : w12.cell? ⟨gb557, 1, none⟩ = some (.int .i64 0) := (blk_cell BK557.out 1).trans rfl; have hcz14_2 : w12.cell? ⟨gb557, 2, none⟩ = some (.slice none 0 0) := (blk_cell BK557.out 2).trans rfl; have hcz14_3 : w12.cell? ⟨gb557, 3, none⟩ = some (.int .i64 0) := (blk_cell BK557.out 3).trans rfl; have hfz14_0 := blk_frozen BK557.out 0; have hfz14_1 := blk_frozen BK557.out 1; have hfz14_2 := blk_frozen BK557.out 2; have hfz14_3 := blk_frozen BK557.out 3; obtain ⟨Ao15, co15, eo15⟩ := Kd.R_slice HO555.out; subst eo15) | ((with_reducible refine gate_builtin (b := .append) (xs := #[.tmp 17, .tmp 18]) rfl ?_); at_builtin; refine Kd.R_append_rows (Kd.int .i64) (w0 := w) w.heap.size rfl (.tmp 17) (.tmp 18) 47 3 (.int .i64 0) 8 rfl Try.underlying47 info3 rfl (by decide) (by omega) (.slice none 0 0) ([] : List Int) l2 _ _ _ (fun _ => True) (fun _ => False) rfl rfl ?aO ?aR (fun _ _ h => h) (fun _ h => h.elim) ?aF ?aB ?aS ?aL ?_; (case aR => exact Kd.C_below HR2.out (by repeat (first | (with_reducible first | exact HB.out | apply below_alloc | apply pw_below_drewN | apply below_drew1 | refine below_set ?_ GE550.out | refine below_set ?_ GE557.out) | exact HB.out))); (case aB => exact (by repeat (first | (with_reducible first | exact HB.out | apply below_alloc | apply pw_below_drewN | apply below_drew1 | refine below_set ?_ GE550.out | refine below_set ?_ GE557.out) | exact HB.out))); (case aF => exact (fun _ _ => trivial)); (case aO => exact ((Kd.R_nil _ _ _ _ (fun _ => True)))); (case aS => exact (below_size (by repeat (first | (with_reducible first | exact HB.out | apply below_alloc | apply pw_below_drewN | apply below_drew1 | refine below_set ?_ GE550.out | refine below_set ?_ GE557.out) | exact HB.out)))); (case aL => have := LMc5.out; omega); intro v559 w16 ho hb hg hat; rw [← Ny558.out] at ho; have n0_ := Aside0.mk (blk_grown (g := gb550) (o := .cells #[.int .i64 a0_0, .int .i64 a0_1, .slice A0_2 l0_2.length c0_2, .int .i64 a0_3] 26 (0, 0)) (by (with_reducible repeat (first | refine blk_drewN ?_ _ | refine blk_drew ?_ | refine blk_alloc ?_ _)); refine blk_far ?_ NB550_557.out _; (with_reducible repeat (first | refine blk_drewN ?_ _ | refine blk_drew ?_ | refine blk_alloc ?_ _)); refine blk_far ?_ NB550_557.out _; (with_reducible repeat (first | refine blk_drewN ?_ _ | refine blk_drew ?_ | refine blk_alloc ?_ _)); refine blk_far ?_ NB550_557.out _; (with_reducible repeat (first | refine blk_drewN ?_ _ | refine blk_drew ?_ | refine blk_alloc ?_ _)); refine blk_far ?_ NB550_557.out _; (with_reducible repeat (first | refine blk_drewN ?_ _ | refine blk_drew ?_ | refine blk_alloc ?_ _)); exact BK550.out) hg (by simp [Value.ownBlock])); have n1_ := Aside0.mk (Kd.R_grown (by (with_reducible repeat (first | apply Kd.R_alloc | apply Kd.R_drewN | apply Kd.R_drew)); exact (Kd.R_mono (Kd.R_far (p := ⟨gb557, 3, none⟩) (Kd.R_far (p := ⟨gb557, 2, none⟩) (Kd.R_far (p := ⟨gb557, 1, none⟩) (Kd.R_far (p := ⟨gb557, 0, none⟩) (Kd.R_types HO555.out BK557.out (by decide)) (fun _ hk => hk.2) (.int .i64 t551)) (fun _ hk => hk.2) (.int .i64 t552)) (fun _ hk => hk.2) (.slice Ao15 t553.length co15)) (fun _ hk => hk.2) (.int .i64 t556)) (fun _ h_ => h_.1))) hg (fun _ _ => by simp [Value.ownBlock])); have n2_ := Aside0.mk (blk_grown (g := gb557) (o := .cells #[.int .i64 t551, .int .i64 t552, .slice Ao15 t553.length co15, .int .i64 t556] 26 (0, 0)) (by (with_reducible repeat (first | refine blk_drewN ?_ _ | refine blk_drew ?_ | refine blk_alloc ?_ _)); refine blk_put (cs := #[.int .i64 t551, .int .i64 t552, .slice Ao15 t553.length co15, .int .i64 0]) ?_ 3 _ rfl; (with_reducible repeat (first | refine blk_drewN ?_ _ | refine blk_drew ?_ | refine blk_alloc ?_ _)); refine blk_put (cs := #[.int .i64 t551, .int .i64 t552, .slice none 0 0, .int .i64 0]) ?_ 2 _ rfl; (with_reducible repeat (first | refine blk_drewN ?_ _ | refine blk_drew ?_ | refine blk_alloc ?_ _)); refine blk_put (cs := #[.int .i64 t551, .int .i64 0, .slice none 0 0, .int .i64 0]) ?_ 1 _ rfl; (with_reducible repeat (first | refine blk_drewN ?_ _ | refine blk_drew ?_ | refine blk_alloc ?_ _)); refine blk_put (cs := #[.int .i64 0, .int .i64 0, .slice none 0 0, .int .i64 0]) ?_ 0 _ rfl; (with_reducible repeat (first | refine blk_drewN ?_ _ | refine blk_drew ?_ | refine blk_alloc ?_ _)); exact BK557.out) hg (by simp [Value.ownBlock])); have n3_ := Aside0.mk (hb); have n4_ := Aside0.mk (ho); clear BK550; clear HO555; clear BK557; clear HB; have BK550 := n0_; have HO555 := n1_; have BK557 := n2_; have HB := n3_; have HO560 := n4_; clear n0_ n1_ n2_ n3_ n4_; clear ho hb hg hat; have hcz17_0 : w16.cell? ⟨gb557, 0, none⟩ = some (.int .i64 t551) := (blk_cell BK557.out 0).trans rfl; have hcz17_1 : w16.cell? ⟨gb557, 1, none⟩ = some (.int .i64 t552) := (blk_cell BK557.out 1).trans rfl; have hcz17_2 : w16.cell? ⟨gb557, 2, none⟩ = some (.slice Ao15 t553.length co15) := (blk_cell BK557.out 2).trans rfl; have hcz17_3 : w16.cell? ⟨gb557, 3, none⟩ = some (.int .i64 t556) := (blk_cell BK557.out 3).trans rfl; have hfz17_0 := blk_frozen BK557.out 0; have hfz17_1 := blk_frozen BK557.out 1; have hfz17_2 := blk_frozen BK557.out 2; have hfz17_3 := blk_frozen BK557.out 3; obtain ⟨Ao18, co18, eo18⟩ := Kd.R_slice HO560.out; subst eo18) | (go_at_call 25; (with_reducible refine (entries_Advance.calls k t551 t552 _ _ t553 t556 a1 _ _ y558 t561 t562 t563 t566 t567 _ ?side1 ?side2 ?side3 ?side4 A6.out).mono ?_); (case side1 => repeat (first | exact (Kd.R_reads' HO555.out).2.2 | (with_reducible refine Kd.C_alloc ?_ _) | (with_reducible refine Kd.C_drewN ?_ _) | (with_reducible refine Kd.C_drew ?_))); (case side2 => exact (Kd.R_reads' HO555.out).2.1); (case side3 => repeat (first | exact (Kd.R_reads' HO560.out).2.2 | (with_reducible refine Kd.C_alloc ?_ _) | (with_reducible refine Kd.C_drewN ?_ _) | (with_reducible refine Kd.C_drew ?_))); (case side4 => exact (Kd.R_reads' HO560.out).2.1); rintro e w19 ⟨v564, rfl, ho0, hb⟩; have n0_ := Aside0.mk (Kd.R_elder' (by (with_reducible repeat (first | apply Kd.R_alloc | apply Kd.R_drewN | apply Kd.R_drew)); exact HO555.out) (Kd.R_base ho0) hb); have n1_ := Aside0.mk (Kd.R_below (by (with_reducible repeat (first | apply Kd.R_alloc | apply Kd.R_drewN | apply Kd.R_drew)); exact HO560.out) hb); have n2_ := Aside0.mk (Kd.R_lower (Kd.R_new' ho0 (Kd.R_lt (by (with_reducible repeat (first | apply Kd.R_alloc | apply Kd.R_drewN | apply Kd.R_drew)); exact HO555.out))) (below_size (by repeat (first | (with_reducible first | exact HB.out | apply below_alloc | apply pw_below_drewN | apply below_drew1 | refine below_set ?_ GE550.out | refine below_set ?_ GE557.out) | exact HB.out)))); have n3_ := Aside0.mk (blk_below (g := gb550) (o := .cells #[.int .i64 a0_0, .int .i64 a0_1, .slice A0_2 l0_2.length c0_2, .int .i64 a0_3] 26 (0, 0)) (by (with_reducible repeat (first | refine blk_drewN ?_ _ | refine blk_drew ?_ | refine blk_alloc ?_ _)); exact BK550.out) hb); have n4_ := Aside0.mk (blk_below (g := gb557) (o := .cells #[.int .i64 t551, .int .i64 t552, .slice Ao15 t553.length co15, .int .i64 t556] 26 (0, 0)) (by (with_reducible repeat (first | refine blk_drewN ?_ _ | refine blk_drew ?_ | refine blk_alloc ?_ _)); exact BK557.out) hb); have n5_ := Aside0.mk (below_step (by repeat (first | (with_reducible first | exact HB.out | apply below_alloc | apply pw_below_drewN | apply below_drew1 | refine below_set ?_ GE550.out | refine below_set ?_ GE557.out) | exact HB.out)) hb); clear HO555; clear HO560; clear BK550; clear BK557; clear HB; have HO555 := n0_; have HO560 := n1_; have HO565 := n2_; have BK550 := n3_; have BK557 := n4_; have HB := n5_; clear n0_ n1_ n2_ n3_ n4_ n5_; (try clear hb); (try clear hb2); (try clear hk); (try clear hi); (try clear ho0)) | ((with_reducible refine gate_dst (N := 9) rfl ?_); refine box_event ?hg (N := 9) ?hd (cs := #[.int .i64 0, .int .i64 0, .slice none 0 0, .int .i64 0]) (t := 26) ?hr ?_; (case hd => rfl); (case hg => rfl); (case hr => first | (go_simp; done) | (go_simp; rfl)); intro gb568 hg w20 hbox hb; have n0_ := Aside0.mk (Kd.R_below (by (with_reducible repeat (first | apply Kd.R_alloc | apply Kd.R_drewN | apply Kd.R_drew)); exact HO555.out) hb); have n1_ := Aside0.mk (Kd.R_below (by (with_reducible repeat (first | apply Kd.R_alloc | apply Kd.R_drewN | apply Kd.R_drew)); exact HO560.out) hb); have n2_ := Aside0.mk (Kd.R_below (by (with_reducible repeat (first | apply Kd.R_alloc | apply Kd.R_drewN | apply Kd.R_drew)); exact HO565.out) hb); have n3_ := Aside0.mk (blk_below (g := gb550) (o := .cells #[.int .i64 a0_0, .int .i64 a0_1, .slice A0_2 l0_2.length c0_2, .int .i64 a0_3] 26 (0, 0)) (by (with_reducible repeat (first | refine blk_drewN ?_ _ | refine blk_drew ?_ | refine blk_alloc ?_ _)); exact BK550.out) hb); have n4_ := Aside0.mk (blk_below (g := gb557) (o := .cells #[.int .i64 t551, .int .i64 t552, .slice Ao15 t553.length co15, .int .i64 t556] 26 (0, 0)) (by (with_reducible repeat (first | refine blk_drewN ?_ _ | refine blk_drew ?_ | refine blk_alloc ?_ _)); exact BK557.out) hb); have n5_ := Aside0.mk (below_step (by repeat (first | (with_reducible first | exact HB.out | apply below_alloc | apply pw_below_drewN | apply below_drew1 | refine below_set ?_ GE550.out | refine below_set ?_ GE557.out) | exact HB.out)) hb); have n6_ := Aside0.mk (hbox); have n7_ := Aside0.mk ((by rw [hg]; exact (below_size (by repeat (first | (with_reducible first | exact HB.out | apply below_alloc | apply pw_below_drewN | apply below_drew1 | refine below_set ?_ GE550.out | refine below_set ?_ GE557.out) | exact HB.out))) : w.heap.size ≤ gb568)); have n8_ := Aside0.mk ((by rw [hg]; exact (below_size (by repeat (first | (with_reducible first | exact HB.out | apply below_alloc | apply pw_below_drewN | apply below_drew1 | refine below_set ?_ GE550.out | refine below_set ?_ GE557.out) | exact HB.out))) : w.heap.size ≤ gb568)); have n9_ := Aside0.mk ((by rw [hg]; exact Nat.ne_of_lt (blk_lt (g := gb550) (o := .cells #[.int .i64 a0_0, .int .i64 a0_1, .slice A0_2 l0_2.length c0_2, .int .i64 a0_3] 26 (0, 0)) (by (with_reducible repeat (first | refine blk_drewN ?_ _ | refine blk_drew ?_ | refine blk_alloc ?_ _)); exact BK550.out)) : gb550 ≠ gb568)); have n10_ := Aside0.mk ((by rw [hg]; exact Nat.ne_of_gt (blk_lt (g := gb550) (o := .cells #[.int .i64 a0_0, .int .i64 a0_1, .slice A0_2 l0_2.length c0_2, .int .i64 a0_3] 26 (0, 0)) (by (with_reducible repeat (first | refine blk_drewN ?_ _ | refine blk_drew ?_ | refine blk_alloc ?_ _)); exact BK550.out)) : gb568 ≠ gb550)); have n11_ := Aside0.mk ((by rw [hg]; exact Nat.ne_of_lt (blk_lt (g := gb557) (o := .cells #[.int .i64 t551, .int .i64 t552, .slice Ao15 t553.length co15, .int .i64 t556] 26 (0, 0)) (by (with_reducible repeat (first | refine blk_drewN ?_ _ | refine blk_drew ?_ | refine blk_alloc ?_ _)); exact BK557.out)) : gb557 ≠ gb568)); have n12_ := Aside0.mk ((by rw [hg]; exact Nat.ne_of_gt (blk_lt (g := gb557) (o := .cells #[.int .i64 t551, .int .i64 t552, .slice Ao15 t553.length co15, .int .i64 t556] 26 (0, 0)) (by (with_reducible repeat (first | refine blk_drewN ?_ _ | refine blk_drew ?_ | refine blk_alloc ?_ _)); exact BK557.out)) : gb568 ≠ gb557)); clear HO555; clear HO560; clear HO565; clear BK550; clear BK557; clear HB; have HO555 := n0_; have HO560 := n1_; have HO565 := n2_; have BK550 := n3_; have BK557 := n4_; have HB := n5_; have BK568 := n6_; have GW568 := n7_; have GE568 := n8_; have NB550_568 := n9_; have NB568_550 := n10_; have NB557_568 := n11_; have NB568_557 := n12_; clear n0_ n1_ n2_ n3_ n4_ n5_ n6_ n7_ n8_ n9_ n10_ n11_ n12_; clear hb hbox hg; have hnb21 := NB568_550.out; have hnc21 := NB550_568.out; have hnb22 := NB568_557.out; have hnc22 := NB557_568.out; have hcz23_0 : w20.cell? ⟨gb568, 0, none⟩ = some (.int .i64 0) := (blk_cell BK568.out 0).trans rfl; have hcz23_1 : w20.cell? ⟨gb568, 1, none⟩ = some (.int .i64 0) := (blk_cell BK568.out 1).trans rfl; have hcz23_2 : w20.cell? ⟨gb568, 2, none⟩ = some (.slice none 0 0) := (blk_cell BK568.out 2).trans rfl; have hcz23_3 : w20.cell? ⟨gb568, 3, none⟩ = some (.int .i64 0) := (blk_cell BK568.out 3).trans rfl; have hfz23_0 := blk_frozen BK568.out 0; have hfz23_1 := blk_frozen BK568.out 1; have hfz23_2 := blk_frozen BK568.out 2; have hfz23_3 := blk_frozen BK568.out 3; obtain ⟨Ao24, co24, eo24⟩ := Kd.R_slice HO565.out; subst eo24; have hcz25_0 : w20.cell? ⟨gb550, 0, none⟩ = some (.int .i64 a0_0) := (blk_cell BK550.out 0).trans rfl; have hcz25_1 : w20.cell? ⟨gb550, 1, none⟩ = some (.int .i64 a0_1) := (blk_cell BK550.out 1).trans rfl; have hcz25_2 : w20.cell? ⟨gb550, 2, none⟩ = some (.slice A0_2 l0_2.length c0_2) := (blk_cell BK550.out 2).trans rfl; have hcz25_3 : w20.cell? ⟨gb550, 3, none⟩ = some (.int .i64 a0_3) := (blk_cell BK550.out 3).trans rfl; have hfz25_0 := blk_frozen BK550.out 0; have hfz25_1 := blk_frozen BK550.out 1; have hfz25_2 := blk_frozen BK550.out 2; have hfz25_3 := blk_frozen BK550.out 3) | (go_at_call 26; (with_reducible refine (rialtoref08_Advance.calls k a0_0 a0_1 _ _ l0_2 a0_3 a1 _ _ l2 t569 t570 t571 t574 t575 _ ?side1 ?side2 ?side3 ?side4 A7.out).mono ?_); (case side1 => exact Kd.C_below HR0_2.out (by repeat (first | (with_reducible first | exact HB.out | apply below_alloc | apply pw_below_drewN | apply below_drew1 | refine below_set ?_ GE550.out | refine below_set ?_ GE557.out | refine below_set ?_ GE568.out) | exact HB.out))); (case side2 => exact HC0_2.out); (case side3 => exact Kd.C_below HR2.out (by repeat (first | (with_reducible first | exact HB.out | apply below_alloc | apply pw_below_drewN | apply below_drew1 | refine below_set ?_ GE550.out | refine below_set ?_ GE557.out | refine below_set ?_ GE568.out) | exact HB.out))); (case side4 => exact HC2.out); rintro e w26 ⟨v572, rfl, ho0, hb⟩; have n0_ := Aside0.mk (Kd.R_elder' (by (with_reducible repeat (first | apply Kd.R_alloc | apply Kd.R_drewN | apply Kd.R_drew)); exact (Kd.R_mono (Kd.R_far (p := ⟨gb568, 3, none⟩) (Kd.R_far (p := ⟨gb568, 2, none⟩) (Kd.R_far (p := ⟨gb568, 1, none⟩) (Kd.R_far (p := ⟨gb568, 0, none⟩) (Kd.R_types HO555.out BK568.out (by decide)) (fun _ hk => hk.2) (.int .i64 t561)) (fun _ hk => hk.2) (.int .i64 t562)) (fun _ hk => hk.2) (.slice Ao24 t563.length co24)) (fun _ hk => hk.2) (.int .i64 t566)) (fun _ h_ => h_.1))) (Kd.R_base ho0) hb); have n1_ := Aside0.mk (Kd.R_below (by (with_reducible repeat (first | apply Kd.R_alloc | apply Kd.R_drewN | apply Kd.R_drew)); exact (Kd.R_mono (Kd.R_far (p := ⟨gb568, 3, none⟩) (Kd.R_far (p := ⟨gb568, 2, none⟩) (Kd.R_far (p := ⟨gb568, 1, none⟩) (Kd.R_far (p := ⟨gb568, 0, none⟩) (Kd.R_types HO560.out BK568.out (by decide)) (fun _ hk => hk.2) (.int .i64 t561)) (fun _ hk => hk.2) (.int .i64 t562)) (fun _ hk => hk.2) (.slice Ao24 t563.length co24)) (fun _ hk => hk.2) (.int .i64 t566)) (fun _ h_ => h_.1))) hb); have n2_ := Aside0.mk (Kd.R_elder' (by (with_reducible repeat (first | apply Kd.R_alloc | apply Kd.R_drewN | apply Kd.R_drew)); exact (Kd.R_mono (Kd.R_far (p := ⟨gb568, 3, none⟩) (Kd.R_far (p := ⟨gb568, 2, none⟩) (Kd.R_far (p := ⟨gb568, 1, none⟩) (Kd.R_far (p := ⟨gb568, 0, none⟩) (Kd.R_types HO565.out BK568.out (by decide)) (fun _ hk => hk.2) (.int .i64 t561)) (fun _ hk => hk.2) (.int .i64 t562)) (fun _ hk => hk.2) (.slice Ao24 t563.length co24)) (fun _ hk => hk.2) (.int .i64 t566)) (fun _ h_ => h_.1))) (Kd.R_base ho0) hb); have n3_ := Aside0.mk (Kd.R_lower (Kd.R_new' (Kd.R_new' ho0 (Kd.R_lt (by (with_reducible repeat (first | apply Kd.R_alloc | apply Kd.R_drewN | apply Kd.R_drew)); exact (Kd.R_mono (Kd.R_far (p := ⟨gb568, 3, none⟩) (Kd.R_far (p := ⟨gb568, 2, none⟩) (Kd.R_far (p := ⟨gb568, 1, none⟩) (Kd.R_far (p := ⟨gb568, 0, none⟩) (Kd.R_types HO555.out BK568.out (by decide)) (fun _ hk => hk.2) (.int .i64 t561)) (fun _ hk => hk.2) (.int .i64 t562)) (fun _ hk => hk.2) (.slice Ao24 t563.length co24)) (fun _ hk => hk.2) (.int .i64 t566)) (fun _ h_ => h_.1))))) (Kd.R_lt (by (with_reducible repeat (first | apply Kd.R_alloc | apply Kd.R_drewN | apply Kd.R_drew)); exact (Kd.R_mono (Kd.R_far (p := ⟨gb568, 3, none⟩) (Kd.R_far (p := ⟨gb568, 2, none⟩) (Kd.R_far (p := ⟨gb568, 1, none⟩) (Kd.R_far (p := ⟨gb568, 0, none⟩) (Kd.R_types HO565.out BK568.out (by decide)) (fun _ hk => hk.2) (.int .i64 t561)) (fun _ hk => hk.2) (.int .i64 t562)) (fun _ hk => hk.2) (.slice Ao24 t563.length co24)) (fun _ hk => hk.2) (.int .i64 t566)) (fun _ h_ => h_.1))))) (below_size (by repeat (first | (with_reducible first | exact HB.out | apply below_alloc | apply pw_below_drewN | apply below_drew1 | refine below_set ?_ GE550.out | refine below_set ?_ GE557.out | refine below_set ?_ GE568.out) | exact HB.out)))); have n4_ := Aside0.mk (blk_below (g := gb550) (o := .cells #[.int .i64 a0_0, .int .i64 a0_1, .slice A0_2 l0_2.length c0_2, .int .i64 a0_3] 26 (0, 0)) (by (with_reducible repeat (first | refine blk_drewN ?_ _ | refine blk_drew ?_ | refine blk_alloc ?_ _)); refine blk_far ?_ NB550_568.out _; (with_reducible repeat (first | refine blk_drewN ?_ _ | refine blk_drew ?_ | refine blk_alloc ?_ _)); refine blk_far ?_ NB550_568.out _; (with_reducible repeat (first | refine blk_drewN ?_ _ | refine blk_drew ?_ | refine blk_alloc ?_ _)); refine blk_far ?_ NB550_568.out _; (with_reducible repeat (first | refine blk_drewN ?_ _ | refine blk_drew ?_ | refine blk_alloc ?_ _)); refine blk_far ?_ NB550_568.out _; (with_reducible repeat (first | refine blk_drewN ?_ _ | refine blk_drew ?_ | refine blk_alloc ?_ _)); exact BK550.out) hb); have n5_ := Aside0.mk (blk_below (g := gb557) (o := .cells #[.int .i64 t551, .int .i64 t552, .slice Ao15 t553.length co15, .int .i64 t556] 26 (0, 0)) (by (with_reducible repeat (first | refine blk_drewN ?_ _ | refine blk_drew ?_ | refine blk_alloc ?_ _)); refine blk_far ?_ NB557_568.out _; (with_reducible repeat (first | refine blk_drewN ?_ _ | refine blk_drew ?_ | refine blk_alloc ?_ _)); refine blk_far ?_ NB557_568.out _; (with_reducible repeat (first | refine blk_drewN ?_ _ | refine blk_drew ?_ | refine blk_alloc ?_ _)); refine blk_far ?_ NB557_568.out _; (with_reducible repeat (first | refine blk_drewN ?_ _ | refine blk_drew ?_ | refine blk_alloc ?_ _)); refine blk_far ?_ NB557_568.out _; (with_reducible repeat (first | refine blk_drewN ?_ _ | refine blk_drew ?_ | refine blk_alloc ?_ _)); exact BK557.out) hb); have n6_ := Aside0.mk (blk_below (g := gb568) (o := .cells #[.int .i64 t561, .int .i64 t562, .slice Ao24 t563.length co24, .int .i64 t566] 26 (0, 0)) (by (with_reducible repeat (first | refine blk_drewN ?_ _ | refine blk_drew ?_ | refine blk_alloc ?_ _)); refine blk_put (cs := #[.int .i64 t561, .int .i64 t562, .slice Ao24 t563.length co24, .int .i64 0]) ?_ 3 _ rfl; (with_reducible repeat (first | refine blk_drewN ?_ _ | refine blk_drew ?_ | refine blk_alloc ?_ _)); refine blk_put (cs := #[.int .i64 t561, .int .i64 t562, .slice none 0 0, .int .i64 0]) ?_ 2 _ rfl; (with_reducible repeat (first | refine blk_drewN ?_ _ | refine blk_drew ?_ | refine blk_alloc ?_ _)); refine blk_put (cs := #[.int .i64 t561, .int .i64 0, .slice none 0 0, .int .i64 0]) ?_ 1 _ rfl; (with_reducible repeat (first | refine blk_drewN ?_ _ | refine blk_drew ?_ | refine blk_alloc ?_ _)); refine blk_put (cs := #[.int .i64 0, .int .i64 0, .slice none 0 0, .int .i64 0]) ?_ 0 _ rfl; (with_reducible repeat (first | refine blk_drewN ?_ _ | refine blk_drew ?_ | refine blk_alloc ?_ _)); exact BK568.out) hb); have n7_ := Aside0.mk (below_step (by repeat (first | (with_reducible first | exact HB.out | apply below_alloc | apply pw_below_drewN | apply below_drew1 | refine below_set ?_ GE550.out | refine below_set ?_ GE557.out | refine below_set ?_ GE568.out) | exact HB.out)) hb); clear HO555; clear HO560; clear HO565; clear BK550; clear BK557; clear BK568; clear HB; have HO555 := n0_; have HO560 := n1_; have HO565 := n2_; have HO573 := n3_; have BK550 := n4_; have BK557 := n5_; have BK568 := n6_; have HB := n7_; clear n0_ n1_ n2_ n3_ n4_ n5_ n6_ n7_; (try clear hb); (try clear hb2); (try clear hk); (try clear hi); (try clear ho0)) | ((with_reducible refine gate_dst (N := 11) rfl ?_); refine box_event ?hg (N := 11) ?hd (cs := #[.int .i64 0, .int .i64 0, .slice none 0 0, .int .i64 0]) (t := 26) ?hr ?_; (case hd => rfl); (case hg => rfl); (case hr => first | (go_simp; done) | (go_simp; rfl)); intro gb576 hg w27 hbox hb; have n0_ := Aside0.mk (Kd.R_below (by (with_reducible repeat (first | apply Kd.R_alloc | apply Kd.R_drewN | apply Kd.R_drew)); exact HO555.out) hb); have n1_ := Aside0.mk (Kd.R_below (by (with_reducible repeat (first | apply Kd.R_alloc | apply Kd.R_drewN | apply Kd.R_drew)); exact HO560.out) hb); have n2_ := Aside0.mk (Kd.R_below (by (with_reducible repeat (first | apply Kd.R_alloc | apply Kd.R_drewN | apply Kd.R_drew)); exact HO565.out) hb); have n3_ := Aside0.mk (Kd.R_below (by (with_reducible repeat (first | apply Kd.R_alloc | apply Kd.R_drewN | apply Kd.R_drew)); exact HO573.out) hb); have n4_ := Aside0.mk (blk_below (g := gb550) (o := .cells #[.int .i64 a0_0, .int .i64 a0_1, .slice A0_2 l0_2.length c0_2, .int .i64 a0_3] 26 (0, 0)) (by (with_reducible repeat (first | refine blk_drewN ?_ _ | refine blk_drew ?_ | refine blk_alloc ?_ _)); exact BK550.out) hb); have n5_ := Aside0.mk (blk_below (g := gb557) (o := .cells #[.int .i64 t551, .int .i64 t552, .slice Ao15 t553.length co15, .int .i64 t556] 26 (0, 0)) (by (with_reducible repeat (first | refine blk_drewN ?_ _ | refine blk_drew ?_ | refine blk_alloc ?_ _)); exact BK557.out) hb); have n6_ := Aside0.mk (blk_below (g := gb568) (o := .cells #[.int .i64 t561, .int .i64 t562, .slice Ao24 t563.length co24, .int .i64 t566] 26 (0, 0)) (by (with_reducible repeat (first | refine blk_drewN ?_ _ | refine blk_drew ?_ | refine blk_alloc ?_ _)); exact BK568.out) hb); have n7_ := Aside0.mk (below_step (by repeat (first | (with_reducible first | exact HB.out | apply below_alloc | apply pw_below_drewN | apply below_drew1 | refine below_set ?_ GE550.out | refine below_set ?_ GE557.out | refine below_set ?_ GE568.out) | exact HB.out)) hb); have n8_ := Aside0.mk (hbox); have n9_ := Aside0.mk ((by rw [hg]; exact (below_size (by repeat (first | (with_reducible first | exact HB.out | apply below_alloc | apply pw_below_drewN | apply below_drew1 | refine below_set ?_ GE550.out | refine below_set ?_ GE557.out | refine below_set ?_ GE568.out) | exact HB.out))) : w.heap.size ≤ gb576)); have n10_ := Aside0.mk ((by rw [hg]; exact (below_size (by repeat (first | (with_reducible first | exact HB.out | apply below_alloc | apply pw_below_drewN | apply below_drew1 | refine below_set ?_ GE550.out | refine below_set ?_ GE557.out | refine below_set ?_ GE568.out) | exact HB.out))) : w.heap.size ≤ gb576)); have n11_ := Aside0.mk ((by rw [hg]; exact Nat.ne_of_lt (blk_lt (g := gb550) (o := .cells #[.int .i64 a0_0, .int .i64 a0_1, .slice A0_2 l0_2.length c0_2, .int .i64 a0_3] 26 (0, 0)) (by (with_reducible repeat (first | refine blk_drewN ?_ _ | refine blk_drew ?_ | refine blk_alloc ?_ _)); exact BK550.out)) : gb550 ≠ gb576)); have n12_ := Aside0.mk ((by rw [hg]; exact Nat.ne_of_gt (blk_lt (g := gb550) (o := .cells #[.int .i64 a0_0, .int .i64 a0_1, .slice A0_2 l0_2.length c0_2, .int .i64 a0_3] 26 (0, 0)) (by (with_reducible repeat (first | refine blk_drewN ?_ _ | refine blk_drew ?_ | refine blk_alloc ?_ _)); exact BK550.out)) : gb576 ≠ gb550)); have n13_ := Aside0.mk ((by rw [hg]; exact Nat.ne_of_lt (blk_lt (g := gb557) (o := .cells #[.int .i64 t551, .int .i64 t552, .slice Ao15 t553.length co15, .int .i64 t556] 26 (0, 0)) (by (with_reducible repeat (first | refine blk_drewN ?_ _ | refine blk_drew ?_ | refine blk_alloc ?_ _)); exact BK557.out)) : gb557 ≠ gb576)); have n14_ := Aside0.mk ((by rw [hg]; exact Nat.ne_of_gt (blk_lt (g := gb557) (o := .cells #[.int .i64 t551, .int .i64 t552, .slice Ao15 t553.length co15, .int .i64 t556] 26 (0, 0)) (by (with_reducible repeat (first | refine blk_drewN ?_ _ | refine blk_drew ?_ | refine blk_alloc ?_ _)); exact BK557.out)) : gb576 ≠ gb557)); have n15_ := Aside0.mk ((by rw [hg]; exact Nat.ne_of_lt (blk_lt (g := gb568) (o := .cells #[.int .i64 t561, .int .i64 t562, .slice Ao24 t563.length co24, .int .i64 t566] 26 (0, 0)) (by (with_reducible repeat (first | refine blk_drewN ?_ _ | refine blk_drew ?_ | refine blk_alloc ?_ _)); exact BK568.out)) : gb568 ≠ gb576)); have n16_ := Aside0.mk ((by rw [hg]; exact Nat.ne_of_gt (blk_lt (g := gb568) (o := .cells #[.int .i64 t561, .int .i64 t562, .slice Ao24 t563.length co24, .int .i64 t566] 26 (0, 0)) (by (with_reducible repeat (first | refine blk_drewN ?_ _ | refine blk_drew ?_ | refine blk_alloc ?_ _)); exact BK568.out)) : gb576 ≠ gb568)); clear HO555; clear HO560; clear HO565; clear HO573; clear BK550; clear BK557; clear BK568; clear HB; have HO555 := n0_; have HO560 := n1_; have HO565 := n2_; have HO573 := n3_; have BK550 := n4_; have BK557 := n5_; have BK568 := n6_; have HB := n7_; have BK576 := n8_; have GW576 := n9_; have GE576 := n10_; have NB550_576 := n11_; have NB576_550 := n12_; have NB557_576 := n13_; have NB576_557 := n14_; have NB568_576 := n15_; have NB576_568 := n16_; clear n0_ n1_ n2_ n3_ n4_ n5_ n6_ n7_ n8_ n9_ n10_ n11_ n12_ n13_ n14_ n15_ n16_; clear hb hbox hg; have hnb28 := NB576_550.out; have hnc28 := NB550_576.out; have hnb29 := NB576_557.out; have hnc29 := NB557_576.out; have hnb30 := NB576_568.out; have hnc30 := NB568_576.out; have hcz31_0 : w27.cell? ⟨gb576, 0, none⟩ = some (.int .i64 0) := (blk_cell BK576.out 0).trans rfl; have hcz31_1 : w27.cell? ⟨gb576, 1, none⟩ = some (.int .i64 0) := (blk_cell BK576.out 1).trans rfl; have hcz31_2 : w27.cell? ⟨gb576, 2, none⟩ = some (.slice none 0 0) := (blk_cell BK576.out 2).trans rfl; have hcz31_3 : w27.cell? ⟨gb576, 3, none⟩ = some (.int .i64 0) := (blk_cell BK576.out 3).trans rfl; have hfz31_0 := blk_frozen BK576.out 0; have hfz31_1 := blk_frozen BK576.out 1; have hfz31_2 := blk_frozen BK576.out 2; have hfz31_3 := blk_frozen BK576.out 3; obtain ⟨Ao32, co32, eo32⟩ := Kd.R_slice HO573.out; subst eo32)))
    (try simp only [Act.put, List.setIfInBounds_toArray, List.set_cons_zero, List.set_cons_succ])
    go_cut [13] (fun v13 wc => ∃ (kq : Nat) (x13_7 : Bool), v13 = .bool x13_7 ∧ Aside0 (rialtolaw08_EntriesAdvance.j0 kq l2 y558 x13_7 = some r) ∧ Aside0 (kq ≤ k) ∧ Aside0 (Kd.R (Kd.int .i64) 3 wc w.heap.size (fun _ => True) (.slice Ao18 y558.length co18) y558) ∧ Aside0 (Kd.R k33 33 wc w.heap.size (fun k_ => some k_ ≠ ((.slice Ao24 t563.length co24) : Value).ownBlock ∧ some k_ ≠ ((.slice Ao32 t571.length co32) : Value).ownBlock) (.slice Ao15 t553.length co15) t553) ∧ Aside0 (Kd.R k33 33 wc w.heap.size (fun k_ => some k_ ≠ ((.slice Ao15 t553.length co15) : Value).ownBlock ∧ some k_ ≠ ((.slice Ao32 t571.length co32) : Value).ownBlock) (.slice Ao24 t563.length co24) t563) ∧ Aside0 (Kd.R k33 33 wc w.heap.size (fun k_ => some k_ ≠ ((.slice Ao15 t553.length co15) : Value).ownBlock ∧ some k_ ≠ ((.slice Ao24 t563.length co24) : Value).ownBlock) (.slice Ao32 t571.length co32) t571) ∧ Aside0 (wc.heap[gb550]? = some (.cells #[.int .i64 a0_0, .int .i64 a0_1, (.slice A0_2 l0_2.length c0_2), .int .i64 a0_3] 26 (0, 0))) ∧ Aside0 (wc.heap[gb557]? = some (.cells #[.int .i64 t551, .int .i64 t552, (.slice Ao15 t553.length co15), .int .i64 t556] 26 (0, 0))) ∧ Aside0 (wc.heap[gb568]? = some (.cells #[.int .i64 t561, .int .i64 t562, (.slice Ao24 t563.length co24), .int .i64 t566] 26 (0, 0))) ∧ Aside0 (wc.heap[gb576]? = some (.cells #[.int .i64 t569, .int .i64 t570, (.slice Ao32 t571.length co32), .int .i64 t574] 26 (0, 0))) ∧ Aside0 (Below w.heap.size w wc))
    case first =>
      have H := HC8.out
      clear HC8
      replace H := Option.bind_eq_some_iff.mp H
      obtain ⟨t577, A330, H⟩ := H
      replace H : (if t577 = true then (if t567 = t575 then ((rialtoref08_Same.f k t551 t552 t553 t556 a0_0 a0_1 l0_2 a0_3).bind fun t578 => (rialtolaw08_EntriesAdvance.j0 k l2 y558 t578)) else (rialtolaw08_EntriesAdvance.j0 k l2 y558 false)) else (rialtolaw08_EntriesAdvance.j0 k l2 y558 false)) = some r := H
      have A33 := Aside0.mk A330
      clear A330
      by_cases c34 : t577 = true
      focus
        subst c34
        have H1 : (if t567 = t575 then ((rialtoref08_Same.f k t551 t552 t553 t556 a0_0 a0_1 l0_2 a0_3).bind fun t578 => (rialtolaw08_EntriesAdvance.j0 k l2 y558 t578)) else (rialtolaw08_EntriesAdvance.j0 k l2 y558 false)) = some r := by rw [if_pos rfl] at H; exact H
        clear H
        have H := H1
        clear H1
        by_cases c35 : t567 = t575
        focus
          rw [if_pos c35] at H
          have c35b0 : (t567 == t575) = true := beq_iff_eq.mpr c35
          have c35b1 : (t567 != t575) = false := bne_eq_false_iff_eq.mpr c35
          clear c35
          (first | rw [c35b0] | (simp only [i64_w, i32_w]; rw [c35b0]) | skip)
          replace H := Option.bind_eq_some_iff.mp H
          obtain ⟨t578, A360, H⟩ := H
          replace H : (rialtolaw08_EntriesAdvance.j0 k l2 y558 t578) = some r := H
          have A36 := Aside0.mk A360
          clear A360
          have H' := Aside0.mk H
          clear H
        rotate_left 1
        focus
          rw [if_neg c35] at H
          have c35b0 : (t567 == t575) = false := beq_eq_false_iff_ne.mpr c35
          have c35b1 : (t567 != t575) = true := bne_iff_ne.mpr c35
          (first | rw [c35b0] | (simp only [i64_w, i32_w]; rw [c35b0]) | skip)
          have H' := Aside0.mk H
          clear H
        rotate_left 1
      rotate_left 2
      focus
        replace c34 := Bool.eq_false_iff.mpr c34
        subst c34
        have H1 : (rialtolaw08_EntriesAdvance.j0 k l2 y558 false) = some r := by rw [if_neg (show ¬ (false = true) by decide)] at H; exact H
        clear H
        have H := H1
        clear H1
        have H' := Aside0.mk H
        clear H
      rotate_left 1
      all_goals
        have hnbyb568_550 := NB568_550.out
        have hncyb550_568 := NB550_568.out
        have hnbyb568_557 := NB568_557.out
        have hncyb557_568 := NB557_568.out
        have hnbyb568_576 := NB568_576.out
        have hncyb576_568 := NB576_568.out
        have hczyb568_0 : w27.cell? ⟨gb568, 0, none⟩ = some (.int .i64 t561) := (blk_cell BK568.out 0).trans rfl
        have hczyb568_1 : w27.cell? ⟨gb568, 1, none⟩ = some (.int .i64 t562) := (blk_cell BK568.out 1).trans rfl
        have hczyb568_2 : w27.cell? ⟨gb568, 2, none⟩ = some (.slice Ao24 t563.length co24) := (blk_cell BK568.out 2).trans rfl
        have hczyb568_3 : w27.cell? ⟨gb568, 3, none⟩ = some (.int .i64 t566) := (blk_cell BK568.out 3).trans rfl
        have hfzyb568_0 := blk_frozen BK568.out 0
        have hfzyb568_1 := blk_frozen BK568.out 1
        have hfzyb568_2 := blk_frozen BK568.out 2
        have hfzyb568_3 := blk_frozen BK568.out 3
        have hnbyb576_550 := NB576_550.out
        have hncyb550_576 := NB550_576.out
        have hnbyb576_557 := NB576_557.out
        have hncyb557_576 := NB557_576.out
        have hczyb576_0 : w27.cell? ⟨gb576, 0, none⟩ = some (.int .i64 0) := (blk_cell BK576.out 0).trans rfl
        have hczyb576_1 : w27.cell? ⟨gb576, 1, none⟩ = some (.int .i64 0) := (blk_cell BK576.out 1).trans rfl
        have hczyb576_2 : w27.cell? ⟨gb576, 2, none⟩ = some (.slice none 0 0) := (blk_cell BK576.out 2).trans rfl
        have hczyb576_3 : w27.cell? ⟨gb576, 3, none⟩ = some (.int .i64 0) := (blk_cell BK576.out 3).trans rfl
        have hfzyb576_0 := blk_frozen BK576.out 0
        have hfzyb576_1 := blk_frozen BK576.out 1
        have hfzyb576_2 := blk_frozen BK576.out 2
        have hfzyb576_3 := blk_frozen BK576.out 3
        go_wp2_with (first | (go_at_call 16; (with_reducible refine (rialtoref08_Same.calls k t561 t562 _ _ t563 t566 t569 t570 _ _ t571 t574 _ _ ?side1 ?side2 ?side3 ?side4 A33.out).mono ?_); (case side1 => refine (Kd.R_reads' (e := 33) (base := w.heap.size) (ok := fun k_ => ((True ∧ some k_ ≠ (.slice Ao15 t553.length co15 : Value).ownBlock) ∧ some k_ ≠ (.slice Ao32 t571.length co32 : Value).ownBlock)) (n := t563.length) (c := co24) ?_).2.2; exact (by (with_reducible repeat (first | apply Kd.R_alloc | apply Kd.R_drewN | apply Kd.R_drew)); exact (Kd.R_mono (Kd.R_far (p := ⟨gb576, 3, none⟩) (Kd.R_far (p := ⟨gb576, 2, none⟩) (Kd.R_far (p := ⟨gb576, 1, none⟩) (Kd.R_far (p := ⟨gb576, 0, none⟩) (Kd.R_types HO565.out BK576.out (by decide)) (fun _ hk => hk.2) (.int .i64 t569)) (fun _ hk => hk.2) (.int .i64 t570)) (fun _ hk => hk.2) (.slice Ao32 t571.length co32)) (fun _ hk => hk.2) (.int .i64 t574)) (fun _ h_ => h_.1)))); (case side2 => exact (Kd.R_reads' HO565.out).2.1); (case side3 => refine (Kd.R_reads' (e := 33) (base := w.heap.size) (ok := fun k_ => ((True ∧ some k_ ≠ (.slice Ao15 t553.length co15 : Value).ownBlock) ∧ some k_ ≠ (.slice Ao24 t563.length co24 : Value).ownBlock)) (n := t571.length) (c := co32) ?_).2.2; exact (by (with_reducible repeat (first | apply Kd.R_alloc | apply Kd.R_drewN | apply Kd.R_drew)); exact (Kd.R_mono (Kd.R_far (p := ⟨gb576, 3, none⟩) (Kd.R_far (p := ⟨gb576, 2, none⟩) (Kd.R_far (p := ⟨gb576, 1, none⟩) (Kd.R_far (p := ⟨gb576, 0, none⟩) (Kd.R_types HO573.out BK576.out (by decide)) (fun _ hk => hk.2) (.int .i64 t569)) (fun _ hk => hk.2) (.int .i64 t570)) (fun _ hk => hk.2) (.slice Ao32 t571.length co32)) (fun _ hk => hk.2) (.int .i64 t574)) (fun _ h_ => h_.1)))); (case side4 => exact (Kd.R_reads' HO573.out).2.1); rintro e wyi0 ⟨rfl, hb⟩; have n0_ := Aside0.mk (Kd.R_below (by (with_reducible repeat (first | apply Kd.R_alloc | apply Kd.R_drewN | apply Kd.R_drew)); exact (Kd.R_mono (Kd.R_far (p := ⟨gb576, 3, none⟩) (Kd.R_far (p := ⟨gb576, 2, none⟩) (Kd.R_far (p := ⟨gb576, 1, none⟩) (Kd.R_far (p := ⟨gb576, 0, none⟩) (Kd.R_types HO555.out BK576.out (by decide)) (fun _ hk => hk.2) (.int .i64 t569)) (fun _ hk => hk.2) (.int .i64 t570)) (fun _ hk => hk.2) (.slice Ao32 t571.length co32)) (fun _ hk => hk.2) (.int .i64 t574)) (fun _ h_ => h_.1))) hb); have n1_ := Aside0.mk (Kd.R_below (by (with_reducible repeat (first | apply Kd.R_alloc | apply Kd.R_drewN | apply Kd.R_drew)); exact (Kd.R_mono (Kd.R_far (p := ⟨gb576, 3, none⟩) (Kd.R_far (p := ⟨gb576, 2, none⟩) (Kd.R_far (p := ⟨gb576, 1, none⟩) (Kd.R_far (p := ⟨gb576, 0, none⟩) (Kd.R_types HO560.out BK576.out (by decide)) (fun _ hk => hk.2) (.int .i64 t569)) (fun _ hk => hk.2) (.int .i64 t570)) (fun _ hk => hk.2) (.slice Ao32 t571.length co32)) (fun _ hk => hk.2) (.int .i64 t574)) (fun _ h_ => h_.1))) hb); have n2_ := Aside0.mk (Kd.R_below (by (with_reducible repeat (first | apply Kd.R_alloc | apply Kd.R_drewN | apply Kd.R_drew)); exact (Kd.R_mono (Kd.R_far (p := ⟨gb576, 3, none⟩) (Kd.R_far (p := ⟨gb576, 2, none⟩) (Kd.R_far (p := ⟨gb576, 1, none⟩) (Kd.R_far (p := ⟨gb576, 0, none⟩) (Kd.R_types HO565.out BK576.out (by decide)) (fun _ hk => hk.2) (.int .i64 t569)) (fun _ hk => hk.2) (.int .i64 t570)) (fun _ hk => hk.2) (.slice Ao32 t571.length co32)) (fun _ hk => hk.2) (.int .i64 t574)) (fun _ h_ => h_.1))) hb); have n3_ := Aside0.mk (Kd.R_below (by (with_reducible repeat (first | apply Kd.R_alloc | apply Kd.R_drewN | apply Kd.R_drew)); exact (Kd.R_mono (Kd.R_far (p := ⟨gb576, 3, none⟩) (Kd.R_far (p := ⟨gb576, 2, none⟩) (Kd.R_far (p := ⟨gb576, 1, none⟩) (Kd.R_far (p := ⟨gb576, 0, none⟩) (Kd.R_types HO573.out BK576.out (by decide)) (fun _ hk => hk.2) (.int .i64 t569)) (fun _ hk => hk.2) (.int .i64 t570)) (fun _ hk => hk.2) (.slice Ao32 t571.length co32)) (fun _ hk => hk.2) (.int .i64 t574)) (fun _ h_ => h_.1))) hb); have n4_ := Aside0.mk (blk_below (g := gb550) (o := .cells #[.int .i64 a0_0, .int .i64 a0_1, .slice A0_2 l0_2.length c0_2, .int .i64 a0_3] 26 (0, 0)) (by (with_reducible repeat (first | refine blk_drewN ?_ _ | refine blk_drew ?_ | refine blk_alloc ?_ _)); refine blk_far ?_ NB550_576.out _; (with_reducible repeat (first | refine blk_drewN ?_ _ | refine blk_drew ?_ | refine blk_alloc ?_ _)); refine blk_far ?_ NB550_576.out _; (with_reducible repeat (first | refine blk_drewN ?_ _ | refine blk_drew ?_ | refine blk_alloc ?_ _)); refine blk_far ?_ NB550_576.out _; (with_reducible repeat (first | refine blk_drewN ?_ _ | refine blk_drew ?_ | refine blk_alloc ?_ _)); refine blk_far ?_ NB550_576.out _; (with_reducible repeat (first | refine blk_drewN ?_ _ | refine blk_drew ?_ | refine blk_alloc ?_ _)); exact BK550.out) hb); have n5_ := Aside0.mk (blk_below (g := gb557) (o := .cells #[.int .i64 t551, .int .i64 t552, .slice Ao15 t553.length co15, .int .i64 t556] 26 (0, 0)) (by (with_reducible repeat (first | refine blk_drewN ?_ _ | refine blk_drew ?_ | refine blk_alloc ?_ _)); refine blk_far ?_ NB557_576.out _; (with_reducible repeat (first | refine blk_drewN ?_ _ | refine blk_drew ?_ | refine blk_alloc ?_ _)); refine blk_far ?_ NB557_576.out _; (with_reducible repeat (first | refine blk_drewN ?_ _ | refine blk_drew ?_ | refine blk_alloc ?_ _)); refine blk_far ?_ NB557_576.out _; (with_reducible repeat (first | refine blk_drewN ?_ _ | refine blk_drew ?_ | refine blk_alloc ?_ _)); refine blk_far ?_ NB557_576.out _; (with_reducible repeat (first | refine blk_drewN ?_ _ | refine blk_drew ?_ | refine blk_alloc ?_ _)); exact BK557.out) hb); have n6_ := Aside0.mk (blk_below (g := gb568) (o := .cells #[.int .i64 t561, .int .i64 t562, .slice Ao24 t563.length co24, .int .i64 t566] 26 (0, 0)) (by (with_reducible repeat (first | refine blk_drewN ?_ _ | refine blk_drew ?_ | refine blk_alloc ?_ _)); refine blk_far ?_ NB568_576.out _; (with_reducible repeat (first | refine blk_drewN ?_ _ | refine blk_drew ?_ | refine blk_alloc ?_ _)); refine blk_far ?_ NB568_576.out _; (with_reducible repeat (first | refine blk_drewN ?_ _ | refine blk_drew ?_ | refine blk_alloc ?_ _)); refine blk_far ?_ NB568_576.out _; (with_reducible repeat (first | refine blk_drewN ?_ _ | refine blk_drew ?_ | refine blk_alloc ?_ _)); refine blk_far ?_ NB568_576.out _; (with_reducible repeat (first | refine blk_drewN ?_ _ | refine blk_drew ?_ | refine blk_alloc ?_ _)); exact BK568.out) hb); have n7_ := Aside0.mk (blk_below (g := gb576) (o := .cells #[.int .i64 t569, .int .i64 t570, .slice Ao32 t571.length co32, .int .i64 t574] 26 (0, 0)) (by (with_reducible repeat (first | refine blk_drewN ?_ _ | refine blk_drew ?_ | refine blk_alloc ?_ _)); refine blk_put (cs := #[.int .i64 t569, .int .i64 t570, .slice Ao32 t571.length co32, .int .i64 0]) ?_ 3 _ rfl; (with_reducible repeat (first | refine blk_drewN ?_ _ | refine blk_drew ?_ | refine blk_alloc ?_ _)); refine blk_put (cs := #[.int .i64 t569, .int .i64 t570, .slice none 0 0, .int .i64 0]) ?_ 2 _ rfl; (with_reducible repeat (first | refine blk_drewN ?_ _ | refine blk_drew ?_ | refine blk_alloc ?_ _)); refine blk_put (cs := #[.int .i64 t569, .int .i64 0, .slice none 0 0, .int .i64 0]) ?_ 1 _ rfl; (with_reducible repeat (first | refine blk_drewN ?_ _ | refine blk_drew ?_ | refine blk_alloc ?_ _)); refine blk_put (cs := #[.int .i64 0, .int .i64 0, .slice none 0 0, .int .i64 0]) ?_ 0 _ rfl; (with_reducible repeat (first | refine blk_drewN ?_ _ | refine blk_drew ?_ | refine blk_alloc ?_ _)); exact BK576.out) hb); have n8_ := Aside0.mk (below_step (by repeat (first | (with_reducible first | exact HB.out | apply below_alloc | apply pw_below_drewN | apply below_drew1 | refine below_set ?_ GE550.out | refine below_set ?_ GE557.out | refine below_set ?_ GE568.out | refine below_set ?_ GE576.out) | exact HB.out)) hb); clear HO555; clear HO560; clear HO565; clear HO573; clear BK550; clear BK557; clear BK568; clear BK576; clear HB; have HO555 := n0_; have HO560 := n1_; have HO565 := n2_; have HO573 := n3_; have BK550 := n4_; have BK557 := n5_; have BK568 := n6_; have BK576 := n7_; have HB := n8_; clear n0_ n1_ n2_ n3_ n4_ n5_ n6_ n7_ n8_; (try clear hb); (try clear hb2); (try clear hk); (try clear hi); have hnbyb557_550 := NB557_550.out; have hncyb550_557 := NB550_557.out; have hczyb557_0 : wyi0.cell? ⟨gb557, 0, none⟩ = some (.int .i64 t551) := (blk_cell BK557.out 0).trans rfl; have hczyb557_1 : wyi0.cell? ⟨gb557, 1, none⟩ = some (.int .i64 t552) := (blk_cell BK557.out 1).trans rfl; have hczyb557_2 : wyi0.cell? ⟨gb557, 2, none⟩ = some (.slice Ao15 t553.length co15) := (blk_cell BK557.out 2).trans rfl; have hczyb557_3 : wyi0.cell? ⟨gb557, 3, none⟩ = some (.int .i64 t556) := (blk_cell BK557.out 3).trans rfl; have hfzyb557_0 := blk_frozen BK557.out 0; have hfzyb557_1 := blk_frozen BK557.out 1; have hfzyb557_2 := blk_frozen BK557.out 2; have hfzyb557_3 := blk_frozen BK557.out 3; have hczyb550_0 : wyi0.cell? ⟨gb550, 0, none⟩ = some (.int .i64 a0_0) := (blk_cell BK550.out 0).trans rfl; have hczyb550_1 : wyi0.cell? ⟨gb550, 1, none⟩ = some (.int .i64 a0_1) := (blk_cell BK550.out 1).trans rfl; have hczyb550_2 : wyi0.cell? ⟨gb550, 2, none⟩ = some (.slice A0_2 l0_2.length c0_2) := (blk_cell BK550.out 2).trans rfl; have hczyb550_3 : wyi0.cell? ⟨gb550, 3, none⟩ = some (.int .i64 a0_3) := (blk_cell BK550.out 3).trans rfl; have hfzyb550_0 := blk_frozen BK550.out 0; have hfzyb550_1 := blk_frozen BK550.out 1; have hfzyb550_2 := blk_frozen BK550.out 2; have hfzyb550_3 := blk_frozen BK550.out 3) | (go_at_call 16; (with_reducible refine (rialtoref08_Same.calls k t551 t552 _ _ t553 t556 a0_0 a0_1 _ _ l0_2 a0_3 t578 _ ?side1 ?side2 ?side3 ?side4 A36.out).mono ?_); (case side1 => repeat (first | exact (Kd.R_reads' HO555.out).2.2 | (with_reducible refine Kd.C_alloc ?_ _) | (with_reducible refine Kd.C_drewN ?_ _) | (with_reducible refine Kd.C_drew ?_))); (case side2 => exact (Kd.R_reads' HO555.out).2.1); (case side3 => repeat (first | exact (Kd.C_below HR0_2.out HB.out) | (with_reducible refine Kd.C_alloc ?_ _) | (with_reducible refine Kd.C_drewN ?_ _) | (with_reducible refine Kd.C_drew ?_))); (case side4 => exact HC0_2.out); rintro e wyi1 ⟨rfl, hb⟩; have n0_ := Aside0.mk (Kd.R_below (by (with_reducible repeat (first | apply Kd.R_alloc | apply Kd.R_drewN | apply Kd.R_drew)); exact HO555.out) hb); have n1_ := Aside0.mk (Kd.R_below (by (with_reducible repeat (first | apply Kd.R_alloc | apply Kd.R_drewN | apply Kd.R_drew)); exact HO560.out) hb); have n2_ := Aside0.mk (Kd.R_below (by (with_reducible repeat (first | apply Kd.R_alloc | apply Kd.R_drewN | apply Kd.R_drew)); exact HO565.out) hb); have n3_ := Aside0.mk (Kd.R_below (by (with_reducible repeat (first | apply Kd.R_alloc | apply Kd.R_drewN | apply Kd.R_drew)); exact HO573.out) hb); have n4_ := Aside0.mk (blk_below (g := gb550) (o := .cells #[.int .i64 a0_0, .int .i64 a0_1, .slice A0_2 l0_2.length c0_2, .int .i64 a0_3] 26 (0, 0)) (by (with_reducible repeat (first | refine blk_drewN ?_ _ | refine blk_drew ?_ | refine blk_alloc ?_ _)); exact BK550.out) hb); have n5_ := Aside0.mk (blk_below (g := gb557) (o := .cells #[.int .i64 t551, .int .i64 t552, .slice Ao15 t553.length co15, .int .i64 t556] 26 (0, 0)) (by (with_reducible repeat (first | refine blk_drewN ?_ _ | refine blk_drew ?_ | refine blk_alloc ?_ _)); exact BK557.out) hb); have n6_ := Aside0.mk (blk_below (g := gb568) (o := .cells #[.int .i64 t561, .int .i64 t562, .slice Ao24 t563.length co24, .int .i64 t566] 26 (0, 0)) (by (with_reducible repeat (first | refine blk_drewN ?_ _ | refine blk_drew ?_ | refine blk_alloc ?_ _)); exact BK568.out) hb); have n7_ := Aside0.mk (blk_below (g := gb576) (o := .cells #[.int .i64 t569, .int .i64 t570, .slice Ao32 t571.length co32, .int .i64 t574] 26 (0, 0)) (by (with_reducible repeat (first | refine blk_drewN ?_ _ | refine blk_drew ?_ | refine blk_alloc ?_ _)); exact BK576.out) hb); have n8_ := Aside0.mk (below_step (by repeat (first | (with_reducible first | exact HB.out | apply below_alloc | apply pw_below_drewN | apply below_drew1 | refine below_set ?_ GE550.out | refine below_set ?_ GE557.out | refine below_set ?_ GE568.out | refine below_set ?_ GE576.out) | exact HB.out)) hb); clear HO555; clear HO560; clear HO565; clear HO573; clear BK550; clear BK557; clear BK568; clear BK576; clear HB; have HO555 := n0_; have HO560 := n1_; have HO565 := n2_; have HO573 := n3_; have BK550 := n4_; have BK557 := n5_; have BK568 := n6_; have BK576 := n7_; have HB := n8_; clear n0_ n1_ n2_ n3_ n4_ n5_ n6_ n7_ n8_; (try clear hb); (try clear hb2); (try clear hk); (try clear hi)) | (go_at_call 16; (with_reducible refine (rialtoref08_Same.calls k t561 t562 _ _ t563 t566 t569 t570 _ _ t571 t574 _ _ ?side1 ?side2 ?side3 ?side4 A33.out).mono ?_); (case side1 => refine (Kd.R_reads' (e := 33) (base := w.heap.size) (ok := fun k_ => ((True ∧ some k_ ≠ (.slice Ao15 t553.length co15 : Value).ownBlock) ∧ some k_ ≠ (.slice Ao32 t571.length co32 : Value).ownBlock)) (n := t563.length) (c := co24) ?_).2.2; exact (by (with_reducible repeat (first | apply Kd.R_alloc | apply Kd.R_drewN | apply Kd.R_drew)); exact (Kd.R_mono (Kd.R_far (p := ⟨gb576, 3, none⟩) (Kd.R_far (p := ⟨gb576, 2, none⟩) (Kd.R_far (p := ⟨gb576, 1, none⟩) (Kd.R_far (p := ⟨gb576, 0, none⟩) (Kd.R_types HO565.out BK576.out (by decide)) (fun _ hk => hk.2) (.int .i64 t569)) (fun _ hk => hk.2) (.int .i64 t570)) (fun _ hk => hk.2) (.slice Ao32 t571.length co32)) (fun _ hk => hk.2) (.int .i64 t574)) (fun _ h_ => h_.1)))); (case side2 => exact (Kd.R_reads' HO565.out).2.1); (case side3 => refine (Kd.R_reads' (e := 33) (base := w.heap.size) (ok := fun k_ => ((True ∧ some k_ ≠ (.slice Ao15 t553.length co15 : Value).ownBlock) ∧ some k_ ≠ (.slice Ao24 t563.length co24 : Value).ownBlock)) (n := t571.length) (c := co32) ?_).2.2; exact (by (with_reducible repeat (first | apply Kd.R_alloc | apply Kd.R_drewN | apply Kd.R_drew)); exact (Kd.R_mono (Kd.R_far (p := ⟨gb576, 3, none⟩) (Kd.R_far (p := ⟨gb576, 2, none⟩) (Kd.R_far (p := ⟨gb576, 1, none⟩) (Kd.R_far (p := ⟨gb576, 0, none⟩) (Kd.R_types HO573.out BK576.out (by decide)) (fun _ hk => hk.2) (.int .i64 t569)) (fun _ hk => hk.2) (.int .i64 t570)) (fun _ hk => hk.2) (.slice Ao32 t571.length co32)) (fun _ hk => hk.2) (.int .i64 t574)) (fun _ h_ => h_.1)))); (case side4 => exact (Kd.R_reads' HO573.out).2.1); rintro e wyi0 ⟨rfl, hb⟩; have n0_ := Aside0.mk (Kd.R_below (by (with_reducible repeat (first | apply Kd.R_alloc | apply Kd.R_drewN | apply Kd.R_drew)); exact (Kd.R_mono (Kd.R_far (p := ⟨gb576, 3, none⟩) (Kd.R_far (p := ⟨gb576, 2, none⟩) (Kd.R_far (p := ⟨gb576, 1, none⟩) (Kd.R_far (p := ⟨gb576, 0, none⟩) (Kd.R_types HO555.out BK576.out (by decide)) (fun _ hk => hk.2) (.int .i64 t569)) (fun _ hk => hk.2) (.int .i64 t570)) (fun _ hk => hk.2) (.slice Ao32 t571.length co32)) (fun _ hk => hk.2) (.int .i64 t574)) (fun _ h_ => h_.1))) hb); have n1_ := Aside0.mk (Kd.R_below (by (with_reducible repeat (first | apply Kd.R_alloc | apply Kd.R_drewN | apply Kd.R_drew)); exact (Kd.R_mono (Kd.R_far (p := ⟨gb576, 3, none⟩) (Kd.R_far (p := ⟨gb576, 2, none⟩) (Kd.R_far (p := ⟨gb576, 1, none⟩) (Kd.R_far (p := ⟨gb576, 0, none⟩) (Kd.R_types HO560.out BK576.out (by decide)) (fun _ hk => hk.2) (.int .i64 t569)) (fun _ hk => hk.2) (.int .i64 t570)) (fun _ hk => hk.2) (.slice Ao32 t571.length co32)) (fun _ hk => hk.2) (.int .i64 t574)) (fun _ h_ => h_.1))) hb); have n2_ := Aside0.mk (Kd.R_below (by (with_reducible repeat (first | apply Kd.R_alloc | apply Kd.R_drewN | apply Kd.R_drew)); exact (Kd.R_mono (Kd.R_far (p := ⟨gb576, 3, none⟩) (Kd.R_far (p := ⟨gb576, 2, none⟩) (Kd.R_far (p := ⟨gb576, 1, none⟩) (Kd.R_far (p := ⟨gb576, 0, none⟩) (Kd.R_types HO565.out BK576.out (by decide)) (fun _ hk => hk.2) (.int .i64 t569)) (fun _ hk => hk.2) (.int .i64 t570)) (fun _ hk => hk.2) (.slice Ao32 t571.length co32)) (fun _ hk => hk.2) (.int .i64 t574)) (fun _ h_ => h_.1))) hb); have n3_ := Aside0.mk (Kd.R_below (by (with_reducible repeat (first | apply Kd.R_alloc | apply Kd.R_drewN | apply Kd.R_drew)); exact (Kd.R_mono (Kd.R_far (p := ⟨gb576, 3, none⟩) (Kd.R_far (p := ⟨gb576, 2, none⟩) (Kd.R_far (p := ⟨gb576, 1, none⟩) (Kd.R_far (p := ⟨gb576, 0, none⟩) (Kd.R_types HO573.out BK576.out (by decide)) (fun _ hk => hk.2) (.int .i64 t569)) (fun _ hk => hk.2) (.int .i64 t570)) (fun _ hk => hk.2) (.slice Ao32 t571.length co32)) (fun _ hk => hk.2) (.int .i64 t574)) (fun _ h_ => h_.1))) hb); have n4_ := Aside0.mk (blk_below (g := gb550) (o := .cells #[.int .i64 a0_0, .int .i64 a0_1, .slice A0_2 l0_2.length c0_2, .int .i64 a0_3] 26 (0, 0)) (by (with_reducible repeat (first | refine blk_drewN ?_ _ | refine blk_drew ?_ | refine blk_alloc ?_ _)); refine blk_far ?_ NB550_576.out _; (with_reducible repeat (first | refine blk_drewN ?_ _ | refine blk_drew ?_ | refine blk_alloc ?_ _)); refine blk_far ?_ NB550_576.out _; (with_reducible repeat (first | refine blk_drewN ?_ _ | refine blk_drew ?_ | refine blk_alloc ?_ _)); refine blk_far ?_ NB550_576.out _; (with_reducible repeat (first | refine blk_drewN ?_ _ | refine blk_drew ?_ | refine blk_alloc ?_ _)); refine blk_far ?_ NB550_576.out _; (with_reducible repeat (first | refine blk_drewN ?_ _ | refine blk_drew ?_ | refine blk_alloc ?_ _)); exact BK550.out) hb); have n5_ := Aside0.mk (blk_below (g := gb557) (o := .cells #[.int .i64 t551, .int .i64 t552, .slice Ao15 t553.length co15, .int .i64 t556] 26 (0, 0)) (by (with_reducible repeat (first | refine blk_drewN ?_ _ | refine blk_drew ?_ | refine blk_alloc ?_ _)); refine blk_far ?_ NB557_576.out _; (with_reducible repeat (first | refine blk_drewN ?_ _ | refine blk_drew ?_ | refine blk_alloc ?_ _)); refine blk_far ?_ NB557_576.out _; (with_reducible repeat (first | refine blk_drewN ?_ _ | refine blk_drew ?_ | refine blk_alloc ?_ _)); refine blk_far ?_ NB557_576.out _; (with_reducible repeat (first | refine blk_drewN ?_ _ | refine blk_drew ?_ | refine blk_alloc ?_ _)); refine blk_far ?_ NB557_576.out _; (with_reducible repeat (first | refine blk_drewN ?_ _ | refine blk_drew ?_ | refine blk_alloc ?_ _)); exact BK557.out) hb); have n6_ := Aside0.mk (blk_below (g := gb568) (o := .cells #[.int .i64 t561, .int .i64 t562, .slice Ao24 t563.length co24, .int .i64 t566] 26 (0, 0)) (by (with_reducible repeat (first | refine blk_drewN ?_ _ | refine blk_drew ?_ | refine blk_alloc ?_ _)); refine blk_far ?_ NB568_576.out _; (with_reducible repeat (first | refine blk_drewN ?_ _ | refine blk_drew ?_ | refine blk_alloc ?_ _)); refine blk_far ?_ NB568_576.out _; (with_reducible repeat (first | refine blk_drewN ?_ _ | refine blk_drew ?_ | refine blk_alloc ?_ _)); refine blk_far ?_ NB568_576.out _; (with_reducible repeat (first | refine blk_drewN ?_ _ | refine blk_drew ?_ | refine blk_alloc ?_ _)); refine blk_far ?_ NB568_576.out _; (with_reducible repeat (first | refine blk_drewN ?_ _ | refine blk_drew ?_ | refine blk_alloc ?_ _)); exact BK568.out) hb); have n7_ := Aside0.mk (blk_below (g := gb576) (o := .cells #[.int .i64 t569, .int .i64 t570, .slice Ao32 t571.length co32, .int .i64 t574] 26 (0, 0)) (by (with_reducible repeat (first | refine blk_drewN ?_ _ | refine blk_drew ?_ | refine blk_alloc ?_ _)); refine blk_put (cs := #[.int .i64 t569, .int .i64 t570, .slice Ao32 t571.length co32, .int .i64 0]) ?_ 3 _ rfl; (with_reducible repeat (first | refine blk_drewN ?_ _ | refine blk_drew ?_ | refine blk_alloc ?_ _)); refine blk_put (cs := #[.int .i64 t569, .int .i64 t570, .slice none 0 0, .int .i64 0]) ?_ 2 _ rfl; (with_reducible repeat (first | refine blk_drewN ?_ _ | refine blk_drew ?_ | refine blk_alloc ?_ _)); refine blk_put (cs := #[.int .i64 t569, .int .i64 0, .slice none 0 0, .int .i64 0]) ?_ 1 _ rfl; (with_reducible repeat (first | refine blk_drewN ?_ _ | refine blk_drew ?_ | refine blk_alloc ?_ _)); refine blk_put (cs := #[.int .i64 0, .int .i64 0, .slice none 0 0, .int .i64 0]) ?_ 0 _ rfl; (with_reducible repeat (first | refine blk_drewN ?_ _ | refine blk_drew ?_ | refine blk_alloc ?_ _)); exact BK576.out) hb); have n8_ := Aside0.mk (below_step (by repeat (first | (with_reducible first | exact HB.out | apply below_alloc | apply pw_below_drewN | apply below_drew1 | refine below_set ?_ GE550.out | refine below_set ?_ GE557.out | refine below_set ?_ GE568.out | refine below_set ?_ GE576.out) | exact HB.out)) hb); clear HO555; clear HO560; clear HO565; clear HO573; clear BK550; clear BK557; clear BK568; clear BK576; clear HB; have HO555 := n0_; have HO560 := n1_; have HO565 := n2_; have HO573 := n3_; have BK550 := n4_; have BK557 := n5_; have BK568 := n6_; have BK576 := n7_; have HB := n8_; clear n0_ n1_ n2_ n3_ n4_ n5_ n6_ n7_ n8_; (try clear hb); (try clear hb2); (try clear hk); (try clear hi)))
      focus
        repeat (go_quiet (first | (go_at_call 16; (with_reducible refine (rialtoref08_Same.calls k t561 t562 _ _ t563 t566 t569 t570 _ _ t571 t574 _ _ ?side1 ?side2 ?side3 ?side4 A33.out).mono ?_); (case side1 => refine (Kd.R_reads' (e := 33) (base := w.heap.size) (ok := fun k_ => ((True ∧ some k_ ≠ (.slice Ao15 t553.length co15 : Value).ownBlock) ∧ some k_ ≠ (.slice Ao32 t571.length co32 : Value).ownBlock)) (n := t563.length) (c := co24) ?_).2.2; exact (by (with_reducible repeat (first | apply Kd.R_alloc | apply Kd.R_drewN | apply Kd.R_drew)); exact (Kd.R_mono (Kd.R_far (p := ⟨gb576, 3, none⟩) (Kd.R_far (p := ⟨gb576, 2, none⟩) (Kd.R_far (p := ⟨gb576, 1, none⟩) (Kd.R_far (p := ⟨gb576, 0, none⟩) (Kd.R_types HO565.out BK576.out (by decide)) (fun _ hk => hk.2) (.int .i64 t569)) (fun _ hk => hk.2) (.int .i64 t570)) (fun _ hk => hk.2) (.slice Ao32 t571.length co32)) (fun _ hk => hk.2) (.int .i64 t574)) (fun _ h_ => h_.1)))); (case side2 => exact (Kd.R_reads' HO565.out).2.1); (case side3 => refine (Kd.R_reads' (e := 33) (base := w.heap.size) (ok := fun k_ => ((True ∧ some k_ ≠ (.slice Ao15 t553.length co15 : Value).ownBlock) ∧ some k_ ≠ (.slice Ao24 t563.length co24 : Value).ownBlock)) (n := t571.length) (c := co32) ?_).2.2; exact (by (with_reducible repeat (first | apply Kd.R_alloc | apply Kd.R_drewN | apply Kd.R_drew)); exact (Kd.R_mono (Kd.R_far (p := ⟨gb576, 3, none⟩) (Kd.R_far (p := ⟨gb576, 2, none⟩) (Kd.R_far (p := ⟨gb576, 1, none⟩) (Kd.R_far (p := ⟨gb576, 0, none⟩) (Kd.R_types HO573.out BK576.out (by decide)) (fun _ hk => hk.2) (.int .i64 t569)) (fun _ hk => hk.2) (.int .i64 t570)) (fun _ hk => hk.2) (.slice Ao32 t571.length co32)) (fun _ hk => hk.2) (.int .i64 t574)) (fun _ h_ => h_.1)))); (case side4 => exact (Kd.R_reads' HO573.out).2.1); rintro e wyi0 ⟨rfl, hb⟩; have n0_ := Aside0.mk (Kd.R_below (by (with_reducible repeat (first | apply Kd.R_alloc | apply Kd.R_drewN | apply Kd.R_drew)); exact (Kd.R_mono (Kd.R_far (p := ⟨gb576, 3, none⟩) (Kd.R_far (p := ⟨gb576, 2, none⟩) (Kd.R_far (p := ⟨gb576, 1, none⟩) (Kd.R_far (p := ⟨gb576, 0, none⟩) (Kd.R_types HO555.out BK576.out (by decide)) (fun _ hk => hk.2) (.int .i64 t569)) (fun _ hk => hk.2) (.int .i64 t570)) (fun _ hk => hk.2) (.slice Ao32 t571.length co32)) (fun _ hk => hk.2) (.int .i64 t574)) (fun _ h_ => h_.1))) hb); have n1_ := Aside0.mk (Kd.R_below (by (with_reducible repeat (first | apply Kd.R_alloc | apply Kd.R_drewN | apply Kd.R_drew)); exact (Kd.R_mono (Kd.R_far (p := ⟨gb576, 3, none⟩) (Kd.R_far (p := ⟨gb576, 2, none⟩) (Kd.R_far (p := ⟨gb576, 1, none⟩) (Kd.R_far (p := ⟨gb576, 0, none⟩) (Kd.R_types HO560.out BK576.out (by decide)) (fun _ hk => hk.2) (.int .i64 t569)) (fun _ hk => hk.2) (.int .i64 t570)) (fun _ hk => hk.2) (.slice Ao32 t571.length co32)) (fun _ hk => hk.2) (.int .i64 t574)) (fun _ h_ => h_.1))) hb); have n2_ := Aside0.mk (Kd.R_below (by (with_reducible repeat (first | apply Kd.R_alloc | apply Kd.R_drewN | apply Kd.R_drew)); exact (Kd.R_mono (Kd.R_far (p := ⟨gb576, 3, none⟩) (Kd.R_far (p := ⟨gb576, 2, none⟩) (Kd.R_far (p := ⟨gb576, 1, none⟩) (Kd.R_far (p := ⟨gb576, 0, none⟩) (Kd.R_types HO565.out BK576.out (by decide)) (fun _ hk => hk.2) (.int .i64 t569)) (fun _ hk => hk.2) (.int .i64 t570)) (fun _ hk => hk.2) (.slice Ao32 t571.length co32)) (fun _ hk => hk.2) (.int .i64 t574)) (fun _ h_ => h_.1))) hb); have n3_ := Aside0.mk (Kd.R_below (by (with_reducible repeat (first | apply Kd.R_alloc | apply Kd.R_drewN | apply Kd.R_drew)); exact (Kd.R_mono (Kd.R_far (p := ⟨gb576, 3, none⟩) (Kd.R_far (p := ⟨gb576, 2, none⟩) (Kd.R_far (p := ⟨gb576, 1, none⟩) (Kd.R_far (p := ⟨gb576, 0, none⟩) (Kd.R_types HO573.out BK576.out (by decide)) (fun _ hk => hk.2) (.int .i64 t569)) (fun _ hk => hk.2) (.int .i64 t570)) (fun _ hk => hk.2) (.slice Ao32 t571.length co32)) (fun _ hk => hk.2) (.int .i64 t574)) (fun _ h_ => h_.1))) hb); have n4_ := Aside0.mk (blk_below (g := gb550) (o := .cells #[.int .i64 a0_0, .int .i64 a0_1, .slice A0_2 l0_2.length c0_2, .int .i64 a0_3] 26 (0, 0)) (by (with_reducible repeat (first | refine blk_drewN ?_ _ | refine blk_drew ?_ | refine blk_alloc ?_ _)); refine blk_far ?_ NB550_576.out _; (with_reducible repeat (first | refine blk_drewN ?_ _ | refine blk_drew ?_ | refine blk_alloc ?_ _)); refine blk_far ?_ NB550_576.out _; (with_reducible repeat (first | refine blk_drewN ?_ _ | refine blk_drew ?_ | refine blk_alloc ?_ _)); refine blk_far ?_ NB550_576.out _; (with_reducible repeat (first | refine blk_drewN ?_ _ | refine blk_drew ?_ | refine blk_alloc ?_ _)); refine blk_far ?_ NB550_576.out _; (with_reducible repeat (first | refine blk_drewN ?_ _ | refine blk_drew ?_ | refine blk_alloc ?_ _)); exact BK550.out) hb); have n5_ := Aside0.mk (blk_below (g := gb557) (o := .cells #[.int .i64 t551, .int .i64 t552, .slice Ao15 t553.length co15, .int .i64 t556] 26 (0, 0)) (by (with_reducible repeat (first | refine blk_drewN ?_ _ | refine blk_drew ?_ | refine blk_alloc ?_ _)); refine blk_far ?_ NB557_576.out _; (with_reducible repeat (first | refine blk_drewN ?_ _ | refine blk_drew ?_ | refine blk_alloc ?_ _)); refine blk_far ?_ NB557_576.out _; (with_reducible repeat (first | refine blk_drewN ?_ _ | refine blk_drew ?_ | refine blk_alloc ?_ _)); refine blk_far ?_ NB557_576.out _; (with_reducible repeat (first | refine blk_drewN ?_ _ | refine blk_drew ?_ | refine blk_alloc ?_ _)); refine blk_far ?_ NB557_576.out _; (with_reducible repeat (first | refine blk_drewN ?_ _ | refine blk_drew ?_ | refine blk_alloc ?_ _)); exact BK557.out) hb); have n6_ := Aside0.mk (blk_below (g := gb568) (o := .cells #[.int .i64 t561, .int .i64 t562, .slice Ao24 t563.length co24, .int .i64 t566] 26 (0, 0)) (by (with_reducible repeat (first | refine blk_drewN ?_ _ | refine blk_drew ?_ | refine blk_alloc ?_ _)); refine blk_far ?_ NB568_576.out _; (with_reducible repeat (first | refine blk_drewN ?_ _ | refine blk_drew ?_ | refine blk_alloc ?_ _)); refine blk_far ?_ NB568_576.out _; (with_reducible repeat (first | refine blk_drewN ?_ _ | refine blk_drew ?_ | refine blk_alloc ?_ _)); refine blk_far ?_ NB568_576.out _; (with_reducible repeat (first | refine blk_drewN ?_ _ | refine blk_drew ?_ | refine blk_alloc ?_ _)); refine blk_far ?_ NB568_576.out _; (with_reducible repeat (first | refine blk_drewN ?_ _ | refine blk_drew ?_ | refine blk_alloc ?_ _)); exact BK568.out) hb); have n7_ := Aside0.mk (blk_below (g := gb576) (o := .cells #[.int .i64 t569, .int .i64 t570, .slice Ao32 t571.length co32, .int .i64 t574] 26 (0, 0)) (by (with_reducible repeat (first | refine blk_drewN ?_ _ | refine blk_drew ?_ | refine blk_alloc ?_ _)); refine blk_put (cs := #[.int .i64 t569, .int .i64 t570, .slice Ao32 t571.length co32, .int .i64 0]) ?_ 3 _ rfl; (with_reducible repeat (first | refine blk_drewN ?_ _ | refine blk_drew ?_ | refine blk_alloc ?_ _)); refine blk_put (cs := #[.int .i64 t569, .int .i64 t570, .slice none 0 0, .int .i64 0]) ?_ 2 _ rfl; (with_reducible repeat (first | refine blk_drewN ?_ _ | refine blk_drew ?_ | refine blk_alloc ?_ _)); refine blk_put (cs := #[.int .i64 t569, .int .i64 0, .slice none 0 0, .int .i64 0]) ?_ 1 _ rfl; (with_reducible repeat (first | refine blk_drewN ?_ _ | refine blk_drew ?_ | refine blk_alloc ?_ _)); refine blk_put (cs := #[.int .i64 0, .int .i64 0, .slice none 0 0, .int .i64 0]) ?_ 0 _ rfl; (with_reducible repeat (first | refine blk_drewN ?_ _ | refine blk_drew ?_ | refine blk_alloc ?_ _)); exact BK576.out) hb); have n8_ := Aside0.mk (below_step (by repeat (first | (with_reducible first | exact HB.out | apply below_alloc | apply pw_below_drewN | apply below_drew1 | refine below_set ?_ GE550.out | refine below_set ?_ GE557.out | refine below_set ?_ GE568.out | refine below_set ?_ GE576.out) | exact HB.out)) hb); clear HO555; clear HO560; clear HO565; clear HO573; clear BK550; clear BK557; clear BK568; clear BK576; clear HB; have HO555 := n0_; have HO560 := n1_; have HO565 := n2_; have HO573 := n3_; have BK550 := n4_; have BK557 := n5_; have BK568 := n6_; have BK576 := n7_; have HB := n8_; clear n0_ n1_ n2_ n3_ n4_ n5_ n6_ n7_ n8_; (try clear hb); (try clear hb2); (try clear hk); (try clear hi); have hnbyb557_550 := NB557_550.out; have hncyb550_557 := NB550_557.out; have hczyb557_0 : wyi0.cell? ⟨gb557, 0, none⟩ = some (.int .i64 t551) := (blk_cell BK557.out 0).trans rfl; have hczyb557_1 : wyi0.cell? ⟨gb557, 1, none⟩ = some (.int .i64 t552) := (blk_cell BK557.out 1).trans rfl; have hczyb557_2 : wyi0.cell? ⟨gb557, 2, none⟩ = some (.slice Ao15 t553.length co15) := (blk_cell BK557.out 2).trans rfl; have hczyb557_3 : wyi0.cell? ⟨gb557, 3, none⟩ = some (.int .i64 t556) := (blk_cell BK557.out 3).trans rfl; have hfzyb557_0 := blk_frozen BK557.out 0; have hfzyb557_1 := blk_frozen BK557.out 1; have hfzyb557_2 := blk_frozen BK557.out 2; have hfzyb557_3 := blk_frozen BK557.out 3; have hczyb550_0 : wyi0.cell? ⟨gb550, 0, none⟩ = some (.int .i64 a0_0) := (blk_cell BK550.out 0).trans rfl; have hczyb550_1 : wyi0.cell? ⟨gb550, 1, none⟩ = some (.int .i64 a0_1) := (blk_cell BK550.out 1).trans rfl; have hczyb550_2 : wyi0.cell? ⟨gb550, 2, none⟩ = some (.slice A0_2 l0_2.length c0_2) := (blk_cell BK550.out 2).trans rfl; have hczyb550_3 : wyi0.cell? ⟨gb550, 3, none⟩ = some (.int .i64 a0_3) := (blk_cell BK550.out 3).trans rfl; have hfzyb550_0 := blk_frozen BK550.out 0; have hfzyb550_1 := blk_frozen BK550.out 1; have hfzyb550_2 := blk_frozen BK550.out 2; have hfzyb550_3 := blk_frozen BK550.out 3) | (go_at_call 16; (with_reducible refine (rialtoref08_Same.calls k t551 t552 _ _ t553 t556 a0_0 a0_1 _ _ l0_2 a0_3 t578 _ ?side1 ?side2 ?side3 ?side4 A36.out).mono ?_); (case side1 => repeat (first | exact (Kd.R_reads' HO555.out).2.2 | (with_reducible refine Kd.C_alloc ?_ _) | (with_reducible refine Kd.C_drewN ?_ _) | (with_reducible refine Kd.C_drew ?_))); (case side2 => exact (Kd.R_reads' HO555.out).2.1); (case side3 => repeat (first | exact (Kd.C_below HR0_2.out HB.out) | (with_reducible refine Kd.C_alloc ?_ _) | (with_reducible refine Kd.C_drewN ?_ _) | (with_reducible refine Kd.C_drew ?_))); (case side4 => exact HC0_2.out); rintro e wyi1 ⟨rfl, hb⟩; have n0_ := Aside0.mk (Kd.R_below (by (with_reducible repeat (first | apply Kd.R_alloc | apply Kd.R_drewN | apply Kd.R_drew)); exact HO555.out) hb); have n1_ := Aside0.mk (Kd.R_below (by (with_reducible repeat (first | apply Kd.R_alloc | apply Kd.R_drewN | apply Kd.R_drew)); exact HO560.out) hb); have n2_ := Aside0.mk (Kd.R_below (by (with_reducible repeat (first | apply Kd.R_alloc | apply Kd.R_drewN | apply Kd.R_drew)); exact HO565.out) hb); have n3_ := Aside0.mk (Kd.R_below (by (with_reducible repeat (first | apply Kd.R_alloc | apply Kd.R_drewN | apply Kd.R_drew)); exact HO573.out) hb); have n4_ := Aside0.mk (blk_below (g := gb550) (o := .cells #[.int .i64 a0_0, .int .i64 a0_1, .slice A0_2 l0_2.length c0_2, .int .i64 a0_3] 26 (0, 0)) (by (with_reducible repeat (first | refine blk_drewN ?_ _ | refine blk_drew ?_ | refine blk_alloc ?_ _)); exact BK550.out) hb); have n5_ := Aside0.mk (blk_below (g := gb557) (o := .cells #[.int .i64 t551, .int .i64 t552, .slice Ao15 t553.length co15, .int .i64 t556] 26 (0, 0)) (by (with_reducible repeat (first | refine blk_drewN ?_ _ | refine blk_drew ?_ | refine blk_alloc ?_ _)); exact BK557.out) hb); have n6_ := Aside0.mk (blk_below (g := gb568) (o := .cells #[.int .i64 t561, .int .i64 t562, .slice Ao24 t563.length co24, .int .i64 t566] 26 (0, 0)) (by (with_reducible repeat (first | refine blk_drewN ?_ _ | refine blk_drew ?_ | refine blk_alloc ?_ _)); exact BK568.out) hb); have n7_ := Aside0.mk (blk_below (g := gb576) (o := .cells #[.int .i64 t569, .int .i64 t570, .slice Ao32 t571.length co32, .int .i64 t574] 26 (0, 0)) (by (with_reducible repeat (first | refine blk_drewN ?_ _ | refine blk_drew ?_ | refine blk_alloc ?_ _)); exact BK576.out) hb); have n8_ := Aside0.mk (below_step (by repeat (first | (with_reducible first | exact HB.out | apply below_alloc | apply pw_below_drewN | apply below_drew1 | refine below_set ?_ GE550.out | refine below_set ?_ GE557.out | refine below_set ?_ GE568.out | refine below_set ?_ GE576.out) | exact HB.out)) hb); clear HO555; clear HO560; clear HO565; clear HO573; clear BK550; clear BK557; clear BK568; clear BK576; clear HB; have HO555 := n0_; have HO560 := n1_; have HO565 := n2_; have HO573 := n3_; have BK550 := n4_; have BK557 := n5_; have BK568 := n6_; have BK576 := n7_; have HB := n8_; clear n0_ n1_ n2_ n3_ n4_ n5_ n6_ n7_ n8_; (try clear hb); (try clear hb2); (try clear hk); (try clear hi))); try go_wp2_with (first | (go_at_call 16; (with_reducible refine (rialtoref08_Same.calls k t561 t562 _ _ t563 t566 t569 t570 _ _ t571 t574 _ _ ?side1 ?side2 ?side3 ?side4 A33.out).mono ?_); (case side1 => refine (Kd.R_reads' (e := 33) (base := w.heap.size) (ok := fun k_ => ((True ∧ some k_ ≠ (.slice Ao15 t553.length co15 : Value).ownBlock) ∧ some k_ ≠ (.slice Ao32 t571.length co32 : Value).ownBlock)) (n := t563.length) (c := co24) ?_).2.2; exact (by (with_reducible repeat (first | apply Kd.R_alloc | apply Kd.R_drewN | apply Kd.R_drew)); exact (Kd.R_mono (Kd.R_far (p := ⟨gb576, 3, none⟩) (Kd.R_far (p := ⟨gb576, 2, none⟩) (Kd.R_far (p := ⟨gb576, 1, none⟩) (Kd.R_far (p := ⟨gb576, 0, none⟩) (Kd.R_types HO565.out BK576.out (by decide)) (fun _ hk => hk.2) (.int .i64 t569)) (fun _ hk => hk.2) (.int .i64 t570)) (fun _ hk => hk.2) (.slice Ao32 t571.length co32)) (fun _ hk => hk.2) (.int .i64 t574)) (fun _ h_ => h_.1)))); (case side2 => exact (Kd.R_reads' HO565.out).2.1); (case side3 => refine (Kd.R_reads' (e := 33) (base := w.heap.size) (ok := fun k_ => ((True ∧ some k_ ≠ (.slice Ao15 t553.length co15 : Value).ownBlock) ∧ some k_ ≠ (.slice Ao24 t563.length co24 : Value).ownBlock)) (n := t571.length) (c := co32) ?_).2.2; exact (by (with_reducible repeat (first | apply Kd.R_alloc | apply Kd.R_drewN | apply Kd.R_drew)); exact (Kd.R_mono (Kd.R_far (p := ⟨gb576, 3, none⟩) (Kd.R_far (p := ⟨gb576, 2, none⟩) (Kd.R_far (p := ⟨gb576, 1, none⟩) (Kd.R_far (p := ⟨gb576, 0, none⟩) (Kd.R_types HO573.out BK576.out (by decide)) (fun _ hk => hk.2) (.int .i64 t569)) (fun _ hk => hk.2) (.int .i64 t570)) (fun _ hk => hk.2) (.slice Ao32 t571.length co32)) (fun _ hk => hk.2) (.int .i64 t574)) (fun _ h_ => h_.1)))); (case side4 => exact (Kd.R_reads' HO573.out).2.1); rintro e wyi0 ⟨rfl, hb⟩; have n0_ := Aside0.mk (Kd.R_below (by (with_reducible repeat (first | apply Kd.R_alloc | apply Kd.R_drewN | apply Kd.R_drew)); exact (Kd.R_mono (Kd.R_far (p := ⟨gb576, 3, none⟩) (Kd.R_far (p := ⟨gb576, 2, none⟩) (Kd.R_far (p := ⟨gb576, 1, none⟩) (Kd.R_far (p := ⟨gb576, 0, none⟩) (Kd.R_types HO555.out BK576.out (by decide)) (fun _ hk => hk.2) (.int .i64 t569)) (fun _ hk => hk.2) (.int .i64 t570)) (fun _ hk => hk.2) (.slice Ao32 t571.length co32)) (fun _ hk => hk.2) (.int .i64 t574)) (fun _ h_ => h_.1))) hb); have n1_ := Aside0.mk (Kd.R_below (by (with_reducible repeat (first | apply Kd.R_alloc | apply Kd.R_drewN | apply Kd.R_drew)); exact (Kd.R_mono (Kd.R_far (p := ⟨gb576, 3, none⟩) (Kd.R_far (p := ⟨gb576, 2, none⟩) (Kd.R_far (p := ⟨gb576, 1, none⟩) (Kd.R_far (p := ⟨gb576, 0, none⟩) (Kd.R_types HO560.out BK576.out (by decide)) (fun _ hk => hk.2) (.int .i64 t569)) (fun _ hk => hk.2) (.int .i64 t570)) (fun _ hk => hk.2) (.slice Ao32 t571.length co32)) (fun _ hk => hk.2) (.int .i64 t574)) (fun _ h_ => h_.1))) hb); have n2_ := Aside0.mk (Kd.R_below (by (with_reducible repeat (first | apply Kd.R_alloc | apply Kd.R_drewN | apply Kd.R_drew)); exact (Kd.R_mono (Kd.R_far (p := ⟨gb576, 3, none⟩) (Kd.R_far (p := ⟨gb576, 2, none⟩) (Kd.R_far (p := ⟨gb576, 1, none⟩) (Kd.R_far (p := ⟨gb576, 0, none⟩) (Kd.R_types HO565.out BK576.out (by decide)) (fun _ hk => hk.2) (.int .i64 t569)) (fun _ hk => hk.2) (.int .i64 t570)) (fun _ hk => hk.2) (.slice Ao32 t571.length co32)) (fun _ hk => hk.2) (.int .i64 t574)) (fun _ h_ => h_.1))) hb); have n3_ := Aside0.mk (Kd.R_below (by (with_reducible repeat (first | apply Kd.R_alloc | apply Kd.R_drewN | apply Kd.R_drew)); exact (Kd.R_mono (Kd.R_far (p := ⟨gb576, 3, none⟩) (Kd.R_far (p := ⟨gb576, 2, none⟩) (Kd.R_far (p := ⟨gb576, 1, none⟩) (Kd.R_far (p := ⟨gb576, 0, none⟩) (Kd.R_types HO573.out BK576.out (by decide)) (fun _ hk => hk.2) (.int .i64 t569)) (fun _ hk => hk.2) (.int .i64 t570)) (fun _ hk => hk.2) (.slice Ao32 t571.length co32)) (fun _ hk => hk.2) (.int .i64 t574)) (fun _ h_ => h_.1))) hb); have n4_ := Aside0.mk (blk_below (g := gb550) (o := .cells #[.int .i64 a0_0, .int .i64 a0_1, .slice A0_2 l0_2.length c0_2, .int .i64 a0_3] 26 (0, 0)) (by (with_reducible repeat (first | refine blk_drewN ?_ _ | refine blk_drew ?_ | refine blk_alloc ?_ _)); refine blk_far ?_ NB550_576.out _; (with_reducible repeat (first | refine blk_drewN ?_ _ | refine blk_drew ?_ | refine blk_alloc ?_ _)); refine blk_far ?_ NB550_576.out _; (with_reducible repeat (first | refine blk_drewN ?_ _ | refine blk_drew ?_ | refine blk_alloc ?_ _)); refine blk_far ?_ NB550_576.out _; (with_reducible repeat (first | refine blk_drewN ?_ _ | refine blk_drew ?_ | refine blk_alloc ?_ _)); refine blk_far ?_ NB550_576.out _; (with_reducible repeat (first | refine blk_drewN ?_ _ | refine blk_drew ?_ | refine blk_alloc ?_ _)); exact BK550.out) hb); have n5_ := Aside0.mk (blk_below (g := gb557) (o := .cells #[.int .i64 t551, .int .i64 t552, .slice Ao15 t553.length co15, .int .i64 t556] 26 (0, 0)) (by (with_reducible repeat (first | refine blk_drewN ?_ _ | refine blk_drew ?_ | refine blk_alloc ?_ _)); refine blk_far ?_ NB557_576.out _; (with_reducible repeat (first | refine blk_drewN ?_ _ | refine blk_drew ?_ | refine blk_alloc ?_ _)); refine blk_far ?_ NB557_576.out _; (with_reducible repeat (first | refine blk_drewN ?_ _ | refine blk_drew ?_ | refine blk_alloc ?_ _)); refine blk_far ?_ NB557_576.out _; (with_reducible repeat (first | refine blk_drewN ?_ _ | refine blk_drew ?_ | refine blk_alloc ?_ _)); refine blk_far ?_ NB557_576.out _; (with_reducible repeat (first | refine blk_drewN ?_ _ | refine blk_drew ?_ | refine blk_alloc ?_ _)); exact BK557.out) hb); have n6_ := Aside0.mk (blk_below (g := gb568) (o := .cells #[.int .i64 t561, .int .i64 t562, .slice Ao24 t563.length co24, .int .i64 t566] 26 (0, 0)) (by (with_reducible repeat (first | refine blk_drewN ?_ _ | refine blk_drew ?_ | refine blk_alloc ?_ _)); refine blk_far ?_ NB568_576.out _; (with_reducible repeat (first | refine blk_drewN ?_ _ | refine blk_drew ?_ | refine blk_alloc ?_ _)); refine blk_far ?_ NB568_576.out _; (with_reducible repeat (first | refine blk_drewN ?_ _ | refine blk_drew ?_ | refine blk_alloc ?_ _)); refine blk_far ?_ NB568_576.out _; (with_reducible repeat (first | refine blk_drewN ?_ _ | refine blk_drew ?_ | refine blk_alloc ?_ _)); refine blk_far ?_ NB568_576.out _; (with_reducible repeat (first | refine blk_drewN ?_ _ | refine blk_drew ?_ | refine blk_alloc ?_ _)); exact BK568.out) hb); have n7_ := Aside0.mk (blk_below (g := gb576) (o := .cells #[.int .i64 t569, .int .i64 t570, .slice Ao32 t571.length co32, .int .i64 t574] 26 (0, 0)) (by (with_reducible repeat (first | refine blk_drewN ?_ _ | refine blk_drew ?_ | refine blk_alloc ?_ _)); refine blk_put (cs := #[.int .i64 t569, .int .i64 t570, .slice Ao32 t571.length co32, .int .i64 0]) ?_ 3 _ rfl; (with_reducible repeat (first | refine blk_drewN ?_ _ | refine blk_drew ?_ | refine blk_alloc ?_ _)); refine blk_put (cs := #[.int .i64 t569, .int .i64 t570, .slice none 0 0, .int .i64 0]) ?_ 2 _ rfl; (with_reducible repeat (first | refine blk_drewN ?_ _ | refine blk_drew ?_ | refine blk_alloc ?_ _)); refine blk_put (cs := #[.int .i64 t569, .int .i64 0, .slice none 0 0, .int .i64 0]) ?_ 1 _ rfl; (with_reducible repeat (first | refine blk_drewN ?_ _ | refine blk_drew ?_ | refine blk_alloc ?_ _)); refine blk_put (cs := #[.int .i64 0, .int .i64 0, .slice none 0 0, .int .i64 0]) ?_ 0 _ rfl; (with_reducible repeat (first | refine blk_drewN ?_ _ | refine blk_drew ?_ | refine blk_alloc ?_ _)); exact BK576.out) hb); have n8_ := Aside0.mk (below_step (by repeat (first | (with_reducible first | exact HB.out | apply below_alloc | apply pw_below_drewN | apply below_drew1 | refine below_set ?_ GE550.out | refine below_set ?_ GE557.out | refine below_set ?_ GE568.out | refine below_set ?_ GE576.out) | exact HB.out)) hb); clear HO555; clear HO560; clear HO565; clear HO573; clear BK550; clear BK557; clear BK568; clear BK576; clear HB; have HO555 := n0_; have HO560 := n1_; have HO565 := n2_; have HO573 := n3_; have BK550 := n4_; have BK557 := n5_; have BK568 := n6_; have BK576 := n7_; have HB := n8_; clear n0_ n1_ n2_ n3_ n4_ n5_ n6_ n7_ n8_; (try clear hb); (try clear hb2); (try clear hk); (try clear hi); have hnbyb557_550 := NB557_550.out; have hncyb550_557 := NB550_557.out; have hczyb557_0 : wyi0.cell? ⟨gb557, 0, none⟩ = some (.int .i64 t551) := (blk_cell BK557.out 0).trans rfl; have hczyb557_1 : wyi0.cell? ⟨gb557, 1, none⟩ = some (.int .i64 t552) := (blk_cell BK557.out 1).trans rfl; have hczyb557_2 : wyi0.cell? ⟨gb557, 2, none⟩ = some (.slice Ao15 t553.length co15) := (blk_cell BK557.out 2).trans rfl; have hczyb557_3 : wyi0.cell? ⟨gb557, 3, none⟩ = some (.int .i64 t556) := (blk_cell BK557.out 3).trans rfl; have hfzyb557_0 := blk_frozen BK557.out 0; have hfzyb557_1 := blk_frozen BK557.out 1; have hfzyb557_2 := blk_frozen BK557.out 2; have hfzyb557_3 := blk_frozen BK557.out 3; have hczyb550_0 : wyi0.cell? ⟨gb550, 0, none⟩ = some (.int .i64 a0_0) := (blk_cell BK550.out 0).trans rfl; have hczyb550_1 : wyi0.cell? ⟨gb550, 1, none⟩ = some (.int .i64 a0_1) := (blk_cell BK550.out 1).trans rfl; have hczyb550_2 : wyi0.cell? ⟨gb550, 2, none⟩ = some (.slice A0_2 l0_2.length c0_2) := (blk_cell BK550.out 2).trans rfl; have hczyb550_3 : wyi0.cell? ⟨gb550, 3, none⟩ = some (.int .i64 a0_3) := (blk_cell BK550.out 3).trans rfl; have hfzyb550_0 := blk_frozen BK550.out 0; have hfzyb550_1 := blk_frozen BK550.out 1; have hfzyb550_2 := blk_frozen BK550.out 2; have hfzyb550_3 := blk_frozen BK550.out 3) | (go_at_call 16; (with_reducible refine (rialtoref08_Same.calls k t551 t552 _ _ t553 t556 a0_0 a0_1 _ _ l0_2 a0_3 t578 _ ?side1 ?side2 ?side3 ?side4 A36.out).mono ?_); (case side1 => repeat (first | exact (Kd.R_reads' HO555.out).2.2 | (with_reducible refine Kd.C_alloc ?_ _) | (with_reducible refine Kd.C_drewN ?_ _) | (with_reducible refine Kd.C_drew ?_))); (case side2 => exact (Kd.R_reads' HO555.out).2.1); (case side3 => repeat (first | exact (Kd.C_below HR0_2.out HB.out) | (with_reducible refine Kd.C_alloc ?_ _) | (with_reducible refine Kd.C_drewN ?_ _) | (with_reducible refine Kd.C_drew ?_))); (case side4 => exact HC0_2.out); rintro e wyi1 ⟨rfl, hb⟩; have n0_ := Aside0.mk (Kd.R_below (by (with_reducible repeat (first | apply Kd.R_alloc | apply Kd.R_drewN | apply Kd.R_drew)); exact HO555.out) hb); have n1_ := Aside0.mk (Kd.R_below (by (with_reducible repeat (first | apply Kd.R_alloc | apply Kd.R_drewN | apply Kd.R_drew)); exact HO560.out) hb); have n2_ := Aside0.mk (Kd.R_below (by (with_reducible repeat (first | apply Kd.R_alloc | apply Kd.R_drewN | apply Kd.R_drew)); exact HO565.out) hb); have n3_ := Aside0.mk (Kd.R_below (by (with_reducible repeat (first | apply Kd.R_alloc | apply Kd.R_drewN | apply Kd.R_drew)); exact HO573.out) hb); have n4_ := Aside0.mk (blk_below (g := gb550) (o := .cells #[.int .i64 a0_0, .int .i64 a0_1, .slice A0_2 l0_2.length c0_2, .int .i64 a0_3] 26 (0, 0)) (by (with_reducible repeat (first | refine blk_drewN ?_ _ | refine blk_drew ?_ | refine blk_alloc ?_ _)); exact BK550.out) hb); have n5_ := Aside0.mk (blk_below (g := gb557) (o := .cells #[.int .i64 t551, .int .i64 t552, .slice Ao15 t553.length co15, .int .i64 t556] 26 (0, 0)) (by (with_reducible repeat (first | refine blk_drewN ?_ _ | refine blk_drew ?_ | refine blk_alloc ?_ _)); exact BK557.out) hb); have n6_ := Aside0.mk (blk_below (g := gb568) (o := .cells #[.int .i64 t561, .int .i64 t562, .slice Ao24 t563.length co24, .int .i64 t566] 26 (0, 0)) (by (with_reducible repeat (first | refine blk_drewN ?_ _ | refine blk_drew ?_ | refine blk_alloc ?_ _)); exact BK568.out) hb); have n7_ := Aside0.mk (blk_below (g := gb576) (o := .cells #[.int .i64 t569, .int .i64 t570, .slice Ao32 t571.length co32, .int .i64 t574] 26 (0, 0)) (by (with_reducible repeat (first | refine blk_drewN ?_ _ | refine blk_drew ?_ | refine blk_alloc ?_ _)); exact BK576.out) hb); have n8_ := Aside0.mk (below_step (by repeat (first | (with_reducible first | exact HB.out | apply below_alloc | apply pw_below_drewN | apply below_drew1 | refine below_set ?_ GE550.out | refine below_set ?_ GE557.out | refine below_set ?_ GE568.out | refine below_set ?_ GE576.out) | exact HB.out)) hb); clear HO555; clear HO560; clear HO565; clear HO573; clear BK550; clear BK557; clear BK568; clear BK576; clear HB; have HO555 := n0_; have HO560 := n1_; have HO565 := n2_; have HO573 := n3_; have BK550 := n4_; have BK557 := n5_; have BK568 := n6_; have BK576 := n7_; have HB := n8_; clear n0_ n1_ n2_ n3_ n4_ n5_ n6_ n7_ n8_; (try clear hb); (try clear hb2); (try clear hk); (try clear hi))))
        go_meet
        case rel => exact ⟨_, (t578), (by first | rfl | (simp; done) | (simp [*]; done)), H', ⟨by first | omega | exact Nat.le_refl _⟩, ⟨by (with_reducible repeat (first | apply Kd.R_alloc | apply Kd.R_drewN | apply Kd.R_drew)); exact HO560.out⟩, ⟨by (with_reducible repeat (first | apply Kd.R_alloc | apply Kd.R_drewN | apply Kd.R_drew)); exact Kd.R_mono HO555.out (fun _ hk => ⟨hk.1.2, hk.2⟩)⟩, ⟨by (with_reducible repeat (first | apply Kd.R_alloc | apply Kd.R_drewN | apply Kd.R_drew)); exact Kd.R_mono HO565.out (fun _ hk => ⟨hk.1.2, hk.2⟩)⟩, ⟨by (with_reducible repeat (first | apply Kd.R_alloc | apply Kd.R_drewN | apply Kd.R_drew)); exact Kd.R_mono HO573.out (fun _ hk => ⟨hk.1.2, hk.2⟩)⟩, ⟨by (with_reducible repeat (first | refine blk_drewN ?_ _ | refine blk_drew ?_ | refine blk_alloc ?_ _)); exact BK550.out⟩, ⟨by (with_reducible repeat (first | refine blk_drewN ?_ _ | refine blk_drew ?_ | refine blk_alloc ?_ _)); exact BK557.out⟩, ⟨by (with_reducible repeat (first | refine blk_drewN ?_ _ | refine blk_drew ?_ | refine blk_alloc ?_ _)); exact BK568.out⟩, ⟨by (with_reducible repeat (first | refine blk_drewN ?_ _ | refine blk_drew ?_ | refine blk_alloc ?_ _)); exact BK576.out⟩, ⟨by repeat (first | (with_reducible first | exact HB.out | apply below_alloc | apply pw_below_drewN | apply below_drew1 | refine below_set ?_ GE550.out | refine below_set ?_ GE557.out | refine below_set ?_ GE568.out | refine below_set ?_ GE576.out) | exact HB.out)⟩⟩
      iterate 2
        focus
          repeat (go_quiet (first | (go_at_call 16; (with_reducible refine (rialtoref08_Same.calls k t561 t562 _ _ t563 t566 t569 t570 _ _ t571 t574 _ _ ?side1 ?side2 ?side3 ?side4 A33.out).mono ?_); (case side1 => refine (Kd.R_reads' (e := 33) (base := w.heap.size) (ok := fun k_ => ((True ∧ some k_ ≠ (.slice Ao15 t553.length co15 : Value).ownBlock) ∧ some k_ ≠ (.slice Ao32 t571.length co32 : Value).ownBlock)) (n := t563.length) (c := co24) ?_).2.2; exact (by (with_reducible repeat (first | apply Kd.R_alloc | apply Kd.R_drewN | apply Kd.R_drew)); exact (Kd.R_mono (Kd.R_far (p := ⟨gb576, 3, none⟩) (Kd.R_far (p := ⟨gb576, 2, none⟩) (Kd.R_far (p := ⟨gb576, 1, none⟩) (Kd.R_far (p := ⟨gb576, 0, none⟩) (Kd.R_types HO565.out BK576.out (by decide)) (fun _ hk => hk.2) (.int .i64 t569)) (fun _ hk => hk.2) (.int .i64 t570)) (fun _ hk => hk.2) (.slice Ao32 t571.length co32)) (fun _ hk => hk.2) (.int .i64 t574)) (fun _ h_ => h_.1)))); (case side2 => exact (Kd.R_reads' HO565.out).2.1); (case side3 => refine (Kd.R_reads' (e := 33) (base := w.heap.size) (ok := fun k_ => ((True ∧ some k_ ≠ (.slice Ao15 t553.length co15 : Value).ownBlock) ∧ some k_ ≠ (.slice Ao24 t563.length co24 : Value).ownBlock)) (n := t571.length) (c := co32) ?_).2.2; exact (by (with_reducible repeat (first | apply Kd.R_alloc | apply Kd.R_drewN | apply Kd.R_drew)); exact (Kd.R_mono (Kd.R_far (p := ⟨gb576, 3, none⟩) (Kd.R_far (p := ⟨gb576, 2, none⟩) (Kd.R_far (p := ⟨gb576, 1, none⟩) (Kd.R_far (p := ⟨gb576, 0, none⟩) (Kd.R_types HO573.out BK576.out (by decide)) (fun _ hk => hk.2) (.int .i64 t569)) (fun _ hk => hk.2) (.int .i64 t570)) (fun _ hk => hk.2) (.slice Ao32 t571.length co32)) (fun _ hk => hk.2) (.int .i64 t574)) (fun _ h_ => h_.1)))); (case side4 => exact (Kd.R_reads' HO573.out).2.1); rintro e wyi0 ⟨rfl, hb⟩; have n0_ := Aside0.mk (Kd.R_below (by (with_reducible repeat (first | apply Kd.R_alloc | apply Kd.R_drewN | apply Kd.R_drew)); exact (Kd.R_mono (Kd.R_far (p := ⟨gb576, 3, none⟩) (Kd.R_far (p := ⟨gb576, 2, none⟩) (Kd.R_far (p := ⟨gb576, 1, none⟩) (Kd.R_far (p := ⟨gb576, 0, none⟩) (Kd.R_types HO555.out BK576.out (by decide)) (fun _ hk => hk.2) (.int .i64 t569)) (fun _ hk => hk.2) (.int .i64 t570)) (fun _ hk => hk.2) (.slice Ao32 t571.length co32)) (fun _ hk => hk.2) (.int .i64 t574)) (fun _ h_ => h_.1))) hb); have n1_ := Aside0.mk (Kd.R_below (by (with_reducible repeat (first | apply Kd.R_alloc | apply Kd.R_drewN | apply Kd.R_drew)); exact (Kd.R_mono (Kd.R_far (p := ⟨gb576, 3, none⟩) (Kd.R_far (p := ⟨gb576, 2, none⟩) (Kd.R_far (p := ⟨gb576, 1, none⟩) (Kd.R_far (p := ⟨gb576, 0, none⟩) (Kd.R_types HO560.out BK576.out (by decide)) (fun _ hk => hk.2) (.int .i64 t569)) (fun _ hk => hk.2) (.int .i64 t570)) (fun _ hk => hk.2) (.slice Ao32 t571.length co32)) (fun _ hk => hk.2) (.int .i64 t574)) (fun _ h_ => h_.1))) hb); have n2_ := Aside0.mk (Kd.R_below (by (with_reducible repeat (first | apply Kd.R_alloc | apply Kd.R_drewN | apply Kd.R_drew)); exact (Kd.R_mono (Kd.R_far (p := ⟨gb576, 3, none⟩) (Kd.R_far (p := ⟨gb576, 2, none⟩) (Kd.R_far (p := ⟨gb576, 1, none⟩) (Kd.R_far (p := ⟨gb576, 0, none⟩) (Kd.R_types HO565.out BK576.out (by decide)) (fun _ hk => hk.2) (.int .i64 t569)) (fun _ hk => hk.2) (.int .i64 t570)) (fun _ hk => hk.2) (.slice Ao32 t571.length co32)) (fun _ hk => hk.2) (.int .i64 t574)) (fun _ h_ => h_.1))) hb); have n3_ := Aside0.mk (Kd.R_below (by (with_reducible repeat (first | apply Kd.R_alloc | apply Kd.R_drewN | apply Kd.R_drew)); exact (Kd.R_mono (Kd.R_far (p := ⟨gb576, 3, none⟩) (Kd.R_far (p := ⟨gb576, 2, none⟩) (Kd.R_far (p := ⟨gb576, 1, none⟩) (Kd.R_far (p := ⟨gb576, 0, none⟩) (Kd.R_types HO573.out BK576.out (by decide)) (fun _ hk => hk.2) (.int .i64 t569)) (fun _ hk => hk.2) (.int .i64 t570)) (fun _ hk => hk.2) (.slice Ao32 t571.length co32)) (fun _ hk => hk.2) (.int .i64 t574)) (fun _ h_ => h_.1))) hb); have n4_ := Aside0.mk (blk_below (g := gb550) (o := .cells #[.int .i64 a0_0, .int .i64 a0_1, .slice A0_2 l0_2.length c0_2, .int .i64 a0_3] 26 (0, 0)) (by (with_reducible repeat (first | refine blk_drewN ?_ _ | refine blk_drew ?_ | refine blk_alloc ?_ _)); refine blk_far ?_ NB550_576.out _; (with_reducible repeat (first | refine blk_drewN ?_ _ | refine blk_drew ?_ | refine blk_alloc ?_ _)); refine blk_far ?_ NB550_576.out _; (with_reducible repeat (first | refine blk_drewN ?_ _ | refine blk_drew ?_ | refine blk_alloc ?_ _)); refine blk_far ?_ NB550_576.out _; (with_reducible repeat (first | refine blk_drewN ?_ _ | refine blk_drew ?_ | refine blk_alloc ?_ _)); refine blk_far ?_ NB550_576.out _; (with_reducible repeat (first | refine blk_drewN ?_ _ | refine blk_drew ?_ | refine blk_alloc ?_ _)); exact BK550.out) hb); have n5_ := Aside0.mk (blk_below (g := gb557) (o := .cells #[.int .i64 t551, .int .i64 t552, .slice Ao15 t553.length co15, .int .i64 t556] 26 (0, 0)) (by (with_reducible repeat (first | refine blk_drewN ?_ _ | refine blk_drew ?_ | refine blk_alloc ?_ _)); refine blk_far ?_ NB557_576.out _; (with_reducible repeat (first | refine blk_drewN ?_ _ | refine blk_drew ?_ | refine blk_alloc ?_ _)); refine blk_far ?_ NB557_576.out _; (with_reducible repeat (first | refine blk_drewN ?_ _ | refine blk_drew ?_ | refine blk_alloc ?_ _)); refine blk_far ?_ NB557_576.out _; (with_reducible repeat (first | refine blk_drewN ?_ _ | refine blk_drew ?_ | refine blk_alloc ?_ _)); refine blk_far ?_ NB557_576.out _; (with_reducible repeat (first | refine blk_drewN ?_ _ | refine blk_drew ?_ | refine blk_alloc ?_ _)); exact BK557.out) hb); have n6_ := Aside0.mk (blk_below (g := gb568) (o := .cells #[.int .i64 t561, .int .i64 t562, .slice Ao24 t563.length co24, .int .i64 t566] 26 (0, 0)) (by (with_reducible repeat (first | refine blk_drewN ?_ _ | refine blk_drew ?_ | refine blk_alloc ?_ _)); refine blk_far ?_ NB568_576.out _; (with_reducible repeat (first | refine blk_drewN ?_ _ | refine blk_drew ?_ | refine blk_alloc ?_ _)); refine blk_far ?_ NB568_576.out _; (with_reducible repeat (first | refine blk_drewN ?_ _ | refine blk_drew ?_ | refine blk_alloc ?_ _)); refine blk_far ?_ NB568_576.out _; (with_reducible repeat (first | refine blk_drewN ?_ _ | refine blk_drew ?_ | refine blk_alloc ?_ _)); refine blk_far ?_ NB568_576.out _; (with_reducible repeat (first | refine blk_drewN ?_ _ | refine blk_drew ?_ | refine blk_alloc ?_ _)); exact BK568.out) hb); have n7_ := Aside0.mk (blk_below (g := gb576) (o := .cells #[.int .i64 t569, .int .i64 t570, .slice Ao32 t571.length co32, .int .i64 t574] 26 (0, 0)) (by (with_reducible repeat (first | refine blk_drewN ?_ _ | refine blk_drew ?_ | refine blk_alloc ?_ _)); refine blk_put (cs := #[.int .i64 t569, .int .i64 t570, .slice Ao32 t571.length co32, .int .i64 0]) ?_ 3 _ rfl; (with_reducible repeat (first | refine blk_drewN ?_ _ | refine blk_drew ?_ | refine blk_alloc ?_ _)); refine blk_put (cs := #[.int .i64 t569, .int .i64 t570, .slice none 0 0, .int .i64 0]) ?_ 2 _ rfl; (with_reducible repeat (first | refine blk_drewN ?_ _ | refine blk_drew ?_ | refine blk_alloc ?_ _)); refine blk_put (cs := #[.int .i64 t569, .int .i64 0, .slice none 0 0, .int .i64 0]) ?_ 1 _ rfl; (with_reducible repeat (first | refine blk_drewN ?_ _ | refine blk_drew ?_ | refine blk_alloc ?_ _)); refine blk_put (cs := #[.int .i64 0, .int .i64 0, .slice none 0 0, .int .i64 0]) ?_ 0 _ rfl; (with_reducible repeat (first | refine blk_drewN ?_ _ | refine blk_drew ?_ | refine blk_alloc ?_ _)); exact BK576.out) hb); have n8_ := Aside0.mk (below_step (by repeat (first | (with_reducible first | exact HB.out | apply below_alloc | apply pw_below_drewN | apply below_drew1 | refine below_set ?_ GE550.out | refine below_set ?_ GE557.out | refine below_set ?_ GE568.out | refine below_set ?_ GE576.out) | exact HB.out)) hb); clear HO555; clear HO560; clear HO565; clear HO573; clear BK550; clear BK557; clear BK568; clear BK576; clear HB; have HO555 := n0_; have HO560 := n1_; have HO565 := n2_; have HO573 := n3_; have BK550 := n4_; have BK557 := n5_; have BK568 := n6_; have BK576 := n7_; have HB := n8_; clear n0_ n1_ n2_ n3_ n4_ n5_ n6_ n7_ n8_; (try clear hb); (try clear hb2); (try clear hk); (try clear hi))); try go_wp2_with (first | (go_at_call 16; (with_reducible refine (rialtoref08_Same.calls k t561 t562 _ _ t563 t566 t569 t570 _ _ t571 t574 _ _ ?side1 ?side2 ?side3 ?side4 A33.out).mono ?_); (case side1 => refine (Kd.R_reads' (e := 33) (base := w.heap.size) (ok := fun k_ => ((True ∧ some k_ ≠ (.slice Ao15 t553.length co15 : Value).ownBlock) ∧ some k_ ≠ (.slice Ao32 t571.length co32 : Value).ownBlock)) (n := t563.length) (c := co24) ?_).2.2; exact (by (with_reducible repeat (first | apply Kd.R_alloc | apply Kd.R_drewN | apply Kd.R_drew)); exact (Kd.R_mono (Kd.R_far (p := ⟨gb576, 3, none⟩) (Kd.R_far (p := ⟨gb576, 2, none⟩) (Kd.R_far (p := ⟨gb576, 1, none⟩) (Kd.R_far (p := ⟨gb576, 0, none⟩) (Kd.R_types HO565.out BK576.out (by decide)) (fun _ hk => hk.2) (.int .i64 t569)) (fun _ hk => hk.2) (.int .i64 t570)) (fun _ hk => hk.2) (.slice Ao32 t571.length co32)) (fun _ hk => hk.2) (.int .i64 t574)) (fun _ h_ => h_.1)))); (case side2 => exact (Kd.R_reads' HO565.out).2.1); (case side3 => refine (Kd.R_reads' (e := 33) (base := w.heap.size) (ok := fun k_ => ((True ∧ some k_ ≠ (.slice Ao15 t553.length co15 : Value).ownBlock) ∧ some k_ ≠ (.slice Ao24 t563.length co24 : Value).ownBlock)) (n := t571.length) (c := co32) ?_).2.2; exact (by (with_reducible repeat (first | apply Kd.R_alloc | apply Kd.R_drewN | apply Kd.R_drew)); exact (Kd.R_mono (Kd.R_far (p := ⟨gb576, 3, none⟩) (Kd.R_far (p := ⟨gb576, 2, none⟩) (Kd.R_far (p := ⟨gb576, 1, none⟩) (Kd.R_far (p := ⟨gb576, 0, none⟩) (Kd.R_types HO573.out BK576.out (by decide)) (fun _ hk => hk.2) (.int .i64 t569)) (fun _ hk => hk.2) (.int .i64 t570)) (fun _ hk => hk.2) (.slice Ao32 t571.length co32)) (fun _ hk => hk.2) (.int .i64 t574)) (fun _ h_ => h_.1)))); (case side4 => exact (Kd.R_reads' HO573.out).2.1); rintro e wyi0 ⟨rfl, hb⟩; have n0_ := Aside0.mk (Kd.R_below (by (with_reducible repeat (first | apply Kd.R_alloc | apply Kd.R_drewN | apply Kd.R_drew)); exact (Kd.R_mono (Kd.R_far (p := ⟨gb576, 3, none⟩) (Kd.R_far (p := ⟨gb576, 2, none⟩) (Kd.R_far (p := ⟨gb576, 1, none⟩) (Kd.R_far (p := ⟨gb576, 0, none⟩) (Kd.R_types HO555.out BK576.out (by decide)) (fun _ hk => hk.2) (.int .i64 t569)) (fun _ hk => hk.2) (.int .i64 t570)) (fun _ hk => hk.2) (.slice Ao32 t571.length co32)) (fun _ hk => hk.2) (.int .i64 t574)) (fun _ h_ => h_.1))) hb); have n1_ := Aside0.mk (Kd.R_below (by (with_reducible repeat (first | apply Kd.R_alloc | apply Kd.R_drewN | apply Kd.R_drew)); exact (Kd.R_mono (Kd.R_far (p := ⟨gb576, 3, none⟩) (Kd.R_far (p := ⟨gb576, 2, none⟩) (Kd.R_far (p := ⟨gb576, 1, none⟩) (Kd.R_far (p := ⟨gb576, 0, none⟩) (Kd.R_types HO560.out BK576.out (by decide)) (fun _ hk => hk.2) (.int .i64 t569)) (fun _ hk => hk.2) (.int .i64 t570)) (fun _ hk => hk.2) (.slice Ao32 t571.length co32)) (fun _ hk => hk.2) (.int .i64 t574)) (fun _ h_ => h_.1))) hb); have n2_ := Aside0.mk (Kd.R_below (by (with_reducible repeat (first | apply Kd.R_alloc | apply Kd.R_drewN | apply Kd.R_drew)); exact (Kd.R_mono (Kd.R_far (p := ⟨gb576, 3, none⟩) (Kd.R_far (p := ⟨gb576, 2, none⟩) (Kd.R_far (p := ⟨gb576, 1, none⟩) (Kd.R_far (p := ⟨gb576, 0, none⟩) (Kd.R_types HO565.out BK576.out (by decide)) (fun _ hk => hk.2) (.int .i64 t569)) (fun _ hk => hk.2) (.int .i64 t570)) (fun _ hk => hk.2) (.slice Ao32 t571.length co32)) (fun _ hk => hk.2) (.int .i64 t574)) (fun _ h_ => h_.1))) hb); have n3_ := Aside0.mk (Kd.R_below (by (with_reducible repeat (first | apply Kd.R_alloc | apply Kd.R_drewN | apply Kd.R_drew)); exact (Kd.R_mono (Kd.R_far (p := ⟨gb576, 3, none⟩) (Kd.R_far (p := ⟨gb576, 2, none⟩) (Kd.R_far (p := ⟨gb576, 1, none⟩) (Kd.R_far (p := ⟨gb576, 0, none⟩) (Kd.R_types HO573.out BK576.out (by decide)) (fun _ hk => hk.2) (.int .i64 t569)) (fun _ hk => hk.2) (.int .i64 t570)) (fun _ hk => hk.2) (.slice Ao32 t571.length co32)) (fun _ hk => hk.2) (.int .i64 t574)) (fun _ h_ => h_.1))) hb); have n4_ := Aside0.mk (blk_below (g := gb550) (o := .cells #[.int .i64 a0_0, .int .i64 a0_1, .slice A0_2 l0_2.length c0_2, .int .i64 a0_3] 26 (0, 0)) (by (with_reducible repeat (first | refine blk_drewN ?_ _ | refine blk_drew ?_ | refine blk_alloc ?_ _)); refine blk_far ?_ NB550_576.out _; (with_reducible repeat (first | refine blk_drewN ?_ _ | refine blk_drew ?_ | refine blk_alloc ?_ _)); refine blk_far ?_ NB550_576.out _; (with_reducible repeat (first | refine blk_drewN ?_ _ | refine blk_drew ?_ | refine blk_alloc ?_ _)); refine blk_far ?_ NB550_576.out _; (with_reducible repeat (first | refine blk_drewN ?_ _ | refine blk_drew ?_ | refine blk_alloc ?_ _)); refine blk_far ?_ NB550_576.out _; (with_reducible repeat (first | refine blk_drewN ?_ _ | refine blk_drew ?_ | refine blk_alloc ?_ _)); exact BK550.out) hb); have n5_ := Aside0.mk (blk_below (g := gb557) (o := .cells #[.int .i64 t551, .int .i64 t552, .slice Ao15 t553.length co15, .int .i64 t556] 26 (0, 0)) (by (with_reducible repeat (first | refine blk_drewN ?_ _ | refine blk_drew ?_ | refine blk_alloc ?_ _)); refine blk_far ?_ NB557_576.out _; (with_reducible repeat (first | refine blk_drewN ?_ _ | refine blk_drew ?_ | refine blk_alloc ?_ _)); refine blk_far ?_ NB557_576.out _; (with_reducible repeat (first | refine blk_drewN ?_ _ | refine blk_drew ?_ | refine blk_alloc ?_ _)); refine blk_far ?_ NB557_576.out _; (with_reducible repeat (first | refine blk_drewN ?_ _ | refine blk_drew ?_ | refine blk_alloc ?_ _)); refine blk_far ?_ NB557_576.out _; (with_reducible repeat (first | refine blk_drewN ?_ _ | refine blk_drew ?_ | refine blk_alloc ?_ _)); exact BK557.out) hb); have n6_ := Aside0.mk (blk_below (g := gb568) (o := .cells #[.int .i64 t561, .int .i64 t562, .slice Ao24 t563.length co24, .int .i64 t566] 26 (0, 0)) (by (with_reducible repeat (first | refine blk_drewN ?_ _ | refine blk_drew ?_ | refine blk_alloc ?_ _)); refine blk_far ?_ NB568_576.out _; (with_reducible repeat (first | refine blk_drewN ?_ _ | refine blk_drew ?_ | refine blk_alloc ?_ _)); refine blk_far ?_ NB568_576.out _; (with_reducible repeat (first | refine blk_drewN ?_ _ | refine blk_drew ?_ | refine blk_alloc ?_ _)); refine blk_far ?_ NB568_576.out _; (with_reducible repeat (first | refine blk_drewN ?_ _ | refine blk_drew ?_ | refine blk_alloc ?_ _)); refine blk_far ?_ NB568_576.out _; (with_reducible repeat (first | refine blk_drewN ?_ _ | refine blk_drew ?_ | refine blk_alloc ?_ _)); exact BK568.out) hb); have n7_ := Aside0.mk (blk_below (g := gb576) (o := .cells #[.int .i64 t569, .int .i64 t570, .slice Ao32 t571.length co32, .int .i64 t574] 26 (0, 0)) (by (with_reducible repeat (first | refine blk_drewN ?_ _ | refine blk_drew ?_ | refine blk_alloc ?_ _)); refine blk_put (cs := #[.int .i64 t569, .int .i64 t570, .slice Ao32 t571.length co32, .int .i64 0]) ?_ 3 _ rfl; (with_reducible repeat (first | refine blk_drewN ?_ _ | refine blk_drew ?_ | refine blk_alloc ?_ _)); refine blk_put (cs := #[.int .i64 t569, .int .i64 t570, .slice none 0 0, .int .i64 0]) ?_ 2 _ rfl; (with_reducible repeat (first | refine blk_drewN ?_ _ | refine blk_drew ?_ | refine blk_alloc ?_ _)); refine blk_put (cs := #[.int .i64 t569, .int .i64 0, .slice none 0 0, .int .i64 0]) ?_ 1 _ rfl; (with_reducible repeat (first | refine blk_drewN ?_ _ | refine blk_drew ?_ | refine blk_alloc ?_ _)); refine blk_put (cs := #[.int .i64 0, .int .i64 0, .slice none 0 0, .int .i64 0]) ?_ 0 _ rfl; (with_reducible repeat (first | refine blk_drewN ?_ _ | refine blk_drew ?_ | refine blk_alloc ?_ _)); exact BK576.out) hb); have n8_ := Aside0.mk (below_step (by repeat (first | (with_reducible first | exact HB.out | apply below_alloc | apply pw_below_drewN | apply below_drew1 | refine below_set ?_ GE550.out | refine below_set ?_ GE557.out | refine below_set ?_ GE568.out | refine below_set ?_ GE576.out) | exact HB.out)) hb); clear HO555; clear HO560; clear HO565; clear HO573; clear BK550; clear BK557; clear BK568; clear BK576; clear HB; have HO555 := n0_; have HO560 := n1_; have HO565 := n2_; have HO573 := n3_; have BK550 := n4_; have BK557 := n5_; have BK568 := n6_; have BK576 := n7_; have HB := n8_; clear n0_ n1_ n2_ n3_ n4_ n5_ n6_ n7_ n8_; (try clear hb); (try clear hb2); (try clear hk); (try clear hi))))
          go_meet
          case rel => exact ⟨_, (false), (by first | rfl | (simp; done) | (simp [*]; done)), H', ⟨by first | omega | exact Nat.le_refl _⟩, ⟨by (with_reducible repeat (first | apply Kd.R_alloc | apply Kd.R_drewN | apply Kd.R_drew)); exact HO560.out⟩, ⟨by (with_reducible repeat (first | apply Kd.R_alloc | apply Kd.R_drewN | apply Kd.R_drew)); exact Kd.R_mono HO555.out (fun _ hk => ⟨hk.1.2, hk.2⟩)⟩, ⟨by (with_reducible repeat (first | apply Kd.R_alloc | apply Kd.R_drewN | apply Kd.R_drew)); exact Kd.R_mono HO565.out (fun _ hk => ⟨hk.1.2, hk.2⟩)⟩, ⟨by (with_reducible repeat (first | apply Kd.R_alloc | apply Kd.R_drewN | apply Kd.R_drew)); exact Kd.R_mono HO573.out (fun _ hk => ⟨hk.1.2, hk.2⟩)⟩, ⟨by (with_reducible repeat (first | refine blk_drewN ?_ _ | refine blk_drew ?_ | refine blk_alloc ?_ _)); exact BK550.out⟩, ⟨by (with_reducible repeat (first | refine blk_drewN ?_ _ | refine blk_drew ?_ | refine blk_alloc ?_ _)); exact BK557.out⟩, ⟨by (with_reducible repeat (first | refine blk_drewN ?_ _ | refine blk_drew ?_ | refine blk_alloc ?_ _)); exact BK568.out⟩, ⟨by (with_reducible repeat (first | refine blk_drewN ?_ _ | refine blk_drew ?_ | refine blk_alloc ?_ _)); exact BK576.out⟩, ⟨by repeat (first | (with_reducible first | exact HB.out | apply below_alloc | apply pw_below_drewN | apply below_drew1 | refine below_set ?_ GE550.out | refine below_set ?_ GE557.out | refine below_set ?_ GE568.out | refine below_set ?_ GE576.out) | exact HB.out)⟩⟩
    case rest =>
      clear HC8
      try clear c2
      try clear c5
      try clear hcz10_0
      try clear hcz10_1
      try clear hcz10_2
      try clear hcz10_3
      try clear hcz14_0
      try clear hcz14_1
      try clear hcz14_2
      try clear hcz14_3
      try clear hcz17_0
      try clear hcz17_1
      try clear hcz17_2
      try clear hcz17_3
      try clear hcz23_0
      try clear hcz23_1
      try clear hcz23_2
      try clear hcz23_3
      try clear hcz25_0
      try clear hcz25_1
      try clear hcz25_2
      try clear hcz25_3
      try clear hcz31_0
      try clear hcz31_1
      try clear hcz31_2
      try clear hcz31_3
      try clear hfz10_0
      try clear hfz10_1
      try clear hfz10_2
      try clear hfz10_3
      try clear hfz14_0
      try clear hfz14_1
      try clear hfz14_2
      try clear hfz14_3
      try clear hfz17_0
      try clear hfz17_1
      try clear hfz17_2
      try clear hfz17_3
      try clear hfz23_0
      try clear hfz23_1
      try clear hfz23_2
      try clear hfz23_3
      try clear hfz25_0
      try clear hfz25_1
      try clear hfz25_2
      try clear hfz25_3
      try clear hfz31_0
      try clear hfz31_1
      try clear hfz31_2
      try clear hfz31_3
      obtain ⟨kq, x13_7, rfl, HA, HJ7, HO_8, HO_558002, HO_569002, HO_577002, BK550, BK557, BK568, BK576, HB⟩ := hcut
      cases kq with
      | zero => exact absurd HA.out (by simp [rialtolaw08_EntriesAdvance.j0])
      | succ kj7 =>
        have H := HA.out
        clear HA
        simp only [rialtolaw08_EntriesAdvance.j0] at H
        have H' := Aside0.mk H
        clear H
        go_wp2
        repeat (go_quiet (fail); try go_wp2)
        go_loopg [13, 14] kj7 (fun kq v13 v14 w' => ∃ (x13_2 : Bool) (x14_2 : Int), v13 = .bool x13_2 ∧ v14 = .int .i64 x14_2 ∧ Aside0 (rialtolaw08_EntriesAdvance.l0 kq l2 y558 x13_2 x14_2 = some r) ∧ Aside0 (kq ≤ kj7) ∧ Aside0 (Kd.R (Kd.int .i64) 3 w' w.heap.size (fun _ => True) (.slice Ao18 y558.length co18) y558) ∧ Aside0 (Kd.R k33 33 w' w.heap.size (fun k_ => some k_ ≠ ((.slice Ao24 t563.length co24) : Value).ownBlock ∧ some k_ ≠ ((.slice Ao32 t571.length co32) : Value).ownBlock) (.slice Ao15 t553.length co15) t553) ∧ Aside0 (Kd.R k33 33 w' w.heap.size (fun k_ => some k_ ≠ ((.slice Ao15 t553.length co15) : Value).ownBlock ∧ some k_ ≠ ((.slice Ao32 t571.length co32) : Value).ownBlock) (.slice Ao24 t563.length co24) t563) ∧ Aside0 (Kd.R k33 33 w' w.heap.size (fun k_ => some k_ ≠ ((.slice Ao15 t553.length co15) : Value).ownBlock ∧ some k_ ≠ ((.slice Ao24 t563.length co24) : Value).ownBlock) (.slice Ao32 t571.length co32) t571) ∧ Aside0 (w'.heap[gb550]? = some (.cells #[.int .i64 a0_0, .int .i64 a0_1, (.slice A0_2 l0_2.length c0_2), .int .i64 a0_3] 26 (0, 0))) ∧ Aside0 (w'.heap[gb557]? = some (.cells #[.int .i64 t551, .int .i64 t552, (.slice Ao15 t553.length co15), .int .i64 t556] 26 (0, 0))) ∧ Aside0 (w'.heap[gb568]? = some (.cells #[.int .i64 t561, .int .i64 t562, (.slice Ao24 t563.length co24), .int .i64 t566] 26 (0, 0))) ∧ Aside0 (w'.heap[gb576]? = some (.cells #[.int .i64 t569, .int .i64 t570, (.slice Ao32 t571.length co32), .int .i64 t574] 26 (0, 0))) ∧ Aside0 (Below w.heap.size w w'))
        case atStart => exact ⟨(x13_7), (0), (by first | rfl | (simp; done) | (simp [*]; done)), (by first | rfl | (simp; done) | (simp [*]; done)), H', ⟨Nat.le_refl _⟩, ⟨by (with_reducible repeat (first | apply Kd.R_alloc | apply Kd.R_drewN | apply Kd.R_drew)); exact HO_8.out⟩, ⟨by (with_reducible repeat (first | apply Kd.R_alloc | apply Kd.R_drewN | apply Kd.R_drew)); exact HO_558002.out⟩, ⟨by (with_reducible repeat (first | apply Kd.R_alloc | apply Kd.R_drewN | apply Kd.R_drew)); exact HO_569002.out⟩, ⟨by (with_reducible repeat (first | apply Kd.R_alloc | apply Kd.R_drewN | apply Kd.R_drew)); exact HO_577002.out⟩, ⟨by (with_reducible repeat (first | refine blk_drewN ?_ _ | refine blk_drew ?_ | refine blk_alloc ?_ _)); exact BK550.out⟩, ⟨by (with_reducible repeat (first | refine blk_drewN ?_ _ | refine blk_drew ?_ | refine blk_alloc ?_ _)); exact BK557.out⟩, ⟨by (with_reducible repeat (first | refine blk_drewN ?_ _ | refine blk_drew ?_ | refine blk_alloc ?_ _)); exact BK568.out⟩, ⟨by (with_reducible repeat (first | refine blk_drewN ?_ _ | refine blk_drew ?_ | refine blk_alloc ?_ _)); exact BK576.out⟩, ⟨by repeat (first | (with_reducible first | exact HB.out | apply below_alloc | apply pw_below_drewN | apply below_drew1 | refine below_set ?_ GE550.out | refine below_set ?_ GE557.out | refine below_set ?_ GE568.out | refine below_set ?_ GE576.out) | exact HB.out)⟩⟩
        case round =>
          clear H'
          try clear c2
          try clear c5
          try clear hcz10_0
          try clear hcz10_1
          try clear hcz10_2
          try clear hcz10_3
          try clear hcz14_0
          try clear hcz14_1
          try clear hcz14_2
          try clear hcz14_3
          try clear hcz17_0
          try clear hcz17_1
          try clear hcz17_2
          try clear hcz17_3
          try clear hcz23_0
          try clear hcz23_1
          try clear hcz23_2
          try clear hcz23_3
          try clear hcz25_0
          try clear hcz25_1
          try clear hcz25_2
          try clear hcz25_3
          try clear hcz31_0
          try clear hcz31_1
          try clear hcz31_2
          try clear hcz31_3
          try clear hfz10_0
          try clear hfz10_1
          try clear hfz10_2
          try clear hfz10_3
          try clear hfz14_0
          try clear hfz14_1
          try clear hfz14_2
          try clear hfz14_3
          try clear hfz17_0
          try clear hfz17_1
          try clear hfz17_2
          try clear hfz17_3
          try clear hfz23_0
          try clear hfz23_1
          try clear hfz23_2
          try clear hfz23_3
          try clear hfz25_0
          try clear hfz25_1
          try clear hfz25_2
          try clear hfz25_3
          try clear hfz31_0
          try clear hfz31_1
          try clear hfz31_2
          try clear hfz31_3
          obtain ⟨x13_2, x14_2, rfl, rfl, HA, HK2, HO_8, HO_558002, HO_569002, HO_577002, BK550, BK557, BK568, BK576, HB⟩ := hrel
          cases gk with
          | zero => exact absurd HA.out (by simp [rialtolaw08_EntriesAdvance.l0])
          | succ k2 =>
            have H := HA.out
            clear HA
            simp only [rialtolaw08_EntriesAdvance.l0] at H
            by_cases c65 : x14_2 < (y558.length : Int)
            · rw [if_pos c65] at H
              have c65b0 : decide (x14_2 < (y558.length : Int)) = true := decide_eq_true c65
              clear c65
              by_cases c66 : x13_2 = true
              · subst c66
                have H1 : (if 0 ≤ x14_2 then (if x14_2 < (l2.length : Int) then (rialtolaw08_EntriesAdvance.l0 k2 l2 y558 ((rd y558 x14_2) == (rd l2 x14_2)) (wrap64 (x14_2 + 1))) else (none)) else (none)) = some r := by rw [if_pos rfl] at H; exact H
                clear H
                have H := H1
                clear H1
                by_cases c67 : 0 ≤ x14_2
                · rw [if_pos c67] at H
                  have c67b0 : decide (0 ≤ x14_2) = true := decide_eq_true c67
                  clear c67
                  by_cases c68 : x14_2 < (l2.length : Int)
                  · rw [if_pos c68] at H
                    have c68b0 : decide (x14_2 < (l2.length : Int)) = true := decide_eq_true c68
                    clear c68
                    have H' := Aside0.mk H
                    clear H
                    have p579 : 0 ≤ (x14_2 : Int) := of_decide_eq_true (by first | (with_reducible assumption) | assumption)
                    have q579 : x14_2 < (y558.length : Int) := of_decide_eq_true (by first | (with_reducible assumption) | assumption)
                    obtain ⟨ad579, e579, hx579_0⟩ := Kd.at_int (Kd.R_reads' HO_8.out).2.2 x14_2 p579 q579
                    cases e579
                    replace p579 := eq_true p579
                    replace q579 := eq_true q579
                    have p580 : 0 ≤ (x14_2 : Int) := of_decide_eq_true (by first | (with_reducible assumption) | assumption)
                    have q580 : x14_2 < (l2.length : Int) := of_decide_eq_true (by first | (with_reducible assumption) | assumption)
                    obtain ⟨ad580, e580, hx580_0⟩ := Kd.at_int HR2.out x14_2 p580 q580
                    cases e580
                    replace hx580_0 := (HB.out.cell (World.block_lt_of_cell? w _ hx580_0)).trans hx580_0
                    replace p580 := eq_true p580
                    replace q580 := eq_true q580
                    go_wp2
                    repeat (go_quiet (fail); try go_wp2)
                    go_roundg k2
                    case measure => have := HJ7.out; have := HK2.out; omega
                    case rel => exact ⟨(((rd y558 x14_2) == (rd l2 x14_2))), (wrap64 (x14_2 + 1)), (by first | rfl | (simp; done) | (simp [*]; done)), (by first | rfl | (simp; done) | (simp [*]; done)), H', ⟨by have := HJ7.out; have := HK2.out; omega⟩, ⟨by (with_reducible repeat (first | apply Kd.R_alloc | apply Kd.R_drewN | apply Kd.R_drew)); exact HO_8.out⟩, ⟨by (with_reducible repeat (first | apply Kd.R_alloc | apply Kd.R_drewN | apply Kd.R_drew)); exact HO_558002.out⟩, ⟨by (with_reducible repeat (first | apply Kd.R_alloc | apply Kd.R_drewN | apply Kd.R_drew)); exact HO_569002.out⟩, ⟨by (with_reducible repeat (first | apply Kd.R_alloc | apply Kd.R_drewN | apply Kd.R_drew)); exact HO_577002.out⟩, ⟨by (with_reducible repeat (first | refine blk_drewN ?_ _ | refine blk_drew ?_ | refine blk_alloc ?_ _)); exact BK550.out⟩, ⟨by (with_reducible repeat (first | refine blk_drewN ?_ _ | refine blk_drew ?_ | refine blk_alloc ?_ _)); exact BK557.out⟩, ⟨by (with_reducible repeat (first | refine blk_drewN ?_ _ | refine blk_drew ?_ | refine blk_alloc ?_ _)); exact BK568.out⟩, ⟨by (with_reducible repeat (first | refine blk_drewN ?_ _ | refine blk_drew ?_ | refine blk_alloc ?_ _)); exact BK576.out⟩, ⟨by repeat (first | (with_reducible first | exact HB.out | apply below_alloc | apply pw_below_drewN | apply below_drew1 | refine below_set ?_ GE550.out | refine below_set ?_ GE557.out | refine below_set ?_ GE568.out | refine below_set ?_ GE576.out) | exact HB.out)⟩⟩
                  · rw [if_neg c68] at H
                    exact absurd H (by simp)
                · rw [if_neg c67] at H
                  exact absurd H (by simp)
              · replace c66 := Bool.eq_false_iff.mpr c66
                subst c66
                have H1 : (rialtolaw08_EntriesAdvance.l0 k2 l2 y558 false (wrap64 (x14_2 + 1))) = some r := by rw [if_neg (show ¬ (false = true) by decide)] at H; exact H
                clear H
                have H := H1
                clear H1
                have H' := Aside0.mk H
                clear H
                go_wp2
                repeat (go_quiet (fail); try go_wp2)
                go_roundg k2
                case measure => have := HJ7.out; have := HK2.out; omega
                case rel => exact ⟨(false), (wrap64 (x14_2 + 1)), (by first | rfl | (simp; done) | (simp [*]; done)), (by first | rfl | (simp; done) | (simp [*]; done)), H', ⟨by have := HJ7.out; have := HK2.out; omega⟩, ⟨by (with_reducible repeat (first | apply Kd.R_alloc | apply Kd.R_drewN | apply Kd.R_drew)); exact HO_8.out⟩, ⟨by (with_reducible repeat (first | apply Kd.R_alloc | apply Kd.R_drewN | apply Kd.R_drew)); exact HO_558002.out⟩, ⟨by (with_reducible repeat (first | apply Kd.R_alloc | apply Kd.R_drewN | apply Kd.R_drew)); exact HO_569002.out⟩, ⟨by (with_reducible repeat (first | apply Kd.R_alloc | apply Kd.R_drewN | apply Kd.R_drew)); exact HO_577002.out⟩, ⟨by (with_reducible repeat (first | refine blk_drewN ?_ _ | refine blk_drew ?_ | refine blk_alloc ?_ _)); exact BK550.out⟩, ⟨by (with_reducible repeat (first | refine blk_drewN ?_ _ | refine blk_drew ?_ | refine blk_alloc ?_ _)); exact BK557.out⟩, ⟨by (with_reducible repeat (first | refine blk_drewN ?_ _ | refine blk_drew ?_ | refine blk_alloc ?_ _)); exact BK568.out⟩, ⟨by (with_reducible repeat (first | refine blk_drewN ?_ _ | refine blk_drew ?_ | refine blk_alloc ?_ _)); exact BK576.out⟩, ⟨by repeat (first | (with_reducible first | exact HB.out | apply below_alloc | apply pw_below_drewN | apply below_drew1 | refine below_set ?_ GE550.out | refine below_set ?_ GE557.out | refine below_set ?_ GE568.out | refine below_set ?_ GE576.out) | exact HB.out)⟩⟩
            · rw [if_neg c65] at H
              have c65b0 : decide (x14_2 < (y558.length : Int)) = false := decide_eq_false c65
              clear c65
              by_cases c69 : x13_2 = true
              · subst c69
                have H1 : ((rialtolaw08_live.f k2).bind fun t581 => (some t581)) = some r := by rw [if_pos rfl] at H; exact H
                clear H
                have H := H1
                clear H1
                replace H := Option.bind_eq_some_iff.mp H
                obtain ⟨t581, A700, H⟩ := H
                replace H : (some t581) = some r := H
                have A70 := Aside0.mk A700
                clear A700
                obtain rfl := Option.some.inj H
                go_wp2_with (first | (go_at_call 24; (with_reducible refine (rialtolaw08_live.calls k2  t581 _ A70.out).mono ?_); rintro e w71 ⟨rfl, hb⟩; have n0_ := Aside0.mk (Kd.R_below (by (with_reducible repeat (first | apply Kd.R_alloc | apply Kd.R_drewN | apply Kd.R_drew)); exact HO_8.out) hb); have n1_ := Aside0.mk (Kd.R_below (by (with_reducible repeat (first | apply Kd.R_alloc | apply Kd.R_drewN | apply Kd.R_drew)); exact HO_558002.out) hb); have n2_ := Aside0.mk (Kd.R_below (by (with_reducible repeat (first | apply Kd.R_alloc | apply Kd.R_drewN | apply Kd.R_drew)); exact HO_569002.out) hb); have n3_ := Aside0.mk (Kd.R_below (by (with_reducible repeat (first | apply Kd.R_alloc | apply Kd.R_drewN | apply Kd.R_drew)); exact HO_577002.out) hb); have n4_ := Aside0.mk (blk_below (g := gb550) (o := .cells #[.int .i64 a0_0, .int .i64 a0_1, .slice A0_2 l0_2.length c0_2, .int .i64 a0_3] 26 (0, 0)) (by (with_reducible repeat (first | refine blk_drewN ?_ _ | refine blk_drew ?_ | refine blk_alloc ?_ _)); exact BK550.out) hb); have n5_ := Aside0.mk (blk_below (g := gb557) (o := .cells #[.int .i64 t551, .int .i64 t552, .slice Ao15 t553.length co15, .int .i64 t556] 26 (0, 0)) (by (with_reducible repeat (first | refine blk_drewN ?_ _ | refine blk_drew ?_ | refine blk_alloc ?_ _)); exact BK557.out) hb); have n6_ := Aside0.mk (blk_below (g := gb568) (o := .cells #[.int .i64 t561, .int .i64 t562, .slice Ao24 t563.length co24, .int .i64 t566] 26 (0, 0)) (by (with_reducible repeat (first | refine blk_drewN ?_ _ | refine blk_drew ?_ | refine blk_alloc ?_ _)); exact BK568.out) hb); have n7_ := Aside0.mk (blk_below (g := gb576) (o := .cells #[.int .i64 t569, .int .i64 t570, .slice Ao32 t571.length co32, .int .i64 t574] 26 (0, 0)) (by (with_reducible repeat (first | refine blk_drewN ?_ _ | refine blk_drew ?_ | refine blk_alloc ?_ _)); exact BK576.out) hb); have n8_ := Aside0.mk (below_step (by repeat (first | (with_reducible first | exact HB.out | apply below_alloc | apply pw_below_drewN | apply below_drew1 | refine below_set ?_ GE550.out | refine below_set ?_ GE557.out | refine below_set ?_ GE568.out | refine below_set ?_ GE576.out) | exact HB.out)) hb); clear HO_8; clear HO_558002; clear HO_569002; clear HO_577002; clear BK550; clear BK557; clear BK568; clear BK576; clear HB; have HO_8 := n0_; have HO_558002 := n1_; have HO_569002 := n2_; have HO_577002 := n3_; have BK550 := n4_; have BK557 := n5_; have BK568 := n6_; have BK576 := n7_; have HB := n8_; clear n0_ n1_ n2_ n3_ n4_ n5_ n6_ n7_ n8_; (try clear hb); (try clear hb2); (try clear hk); (try clear hi)))
                repeat (go_quiet (first | (go_at_call 24; (with_reducible refine (rialtolaw08_live.calls k2  t581 _ A70.out).mono ?_); rintro e w71 ⟨rfl, hb⟩; have n0_ := Aside0.mk (Kd.R_below (by (with_reducible repeat (first | apply Kd.R_alloc | apply Kd.R_drewN | apply Kd.R_drew)); exact HO_8.out) hb); have n1_ := Aside0.mk (Kd.R_below (by (with_reducible repeat (first | apply Kd.R_alloc | apply Kd.R_drewN | apply Kd.R_drew)); exact HO_558002.out) hb); have n2_ := Aside0.mk (Kd.R_below (by (with_reducible repeat (first | apply Kd.R_alloc | apply Kd.R_drewN | apply Kd.R_drew)); exact HO_569002.out) hb); have n3_ := Aside0.mk (Kd.R_below (by (with_reducible repeat (first | apply Kd.R_alloc | apply Kd.R_drewN | apply Kd.R_drew)); exact HO_577002.out) hb); have n4_ := Aside0.mk (blk_below (g := gb550) (o := .cells #[.int .i64 a0_0, .int .i64 a0_1, .slice A0_2 l0_2.length c0_2, .int .i64 a0_3] 26 (0, 0)) (by (with_reducible repeat (first | refine blk_drewN ?_ _ | refine blk_drew ?_ | refine blk_alloc ?_ _)); exact BK550.out) hb); have n5_ := Aside0.mk (blk_below (g := gb557) (o := .cells #[.int .i64 t551, .int .i64 t552, .slice Ao15 t553.length co15, .int .i64 t556] 26 (0, 0)) (by (with_reducible repeat (first | refine blk_drewN ?_ _ | refine blk_drew ?_ | refine blk_alloc ?_ _)); exact BK557.out) hb); have n6_ := Aside0.mk (blk_below (g := gb568) (o := .cells #[.int .i64 t561, .int .i64 t562, .slice Ao24 t563.length co24, .int .i64 t566] 26 (0, 0)) (by (with_reducible repeat (first | refine blk_drewN ?_ _ | refine blk_drew ?_ | refine blk_alloc ?_ _)); exact BK568.out) hb); have n7_ := Aside0.mk (blk_below (g := gb576) (o := .cells #[.int .i64 t569, .int .i64 t570, .slice Ao32 t571.length co32, .int .i64 t574] 26 (0, 0)) (by (with_reducible repeat (first | refine blk_drewN ?_ _ | refine blk_drew ?_ | refine blk_alloc ?_ _)); exact BK576.out) hb); have n8_ := Aside0.mk (below_step (by repeat (first | (with_reducible first | exact HB.out | apply below_alloc | apply pw_below_drewN | apply below_drew1 | refine below_set ?_ GE550.out | refine below_set ?_ GE557.out | refine below_set ?_ GE568.out | refine below_set ?_ GE576.out) | exact HB.out)) hb); clear HO_8; clear HO_558002; clear HO_569002; clear HO_577002; clear BK550; clear BK557; clear BK568; clear BK576; clear HB; have HO_8 := n0_; have HO_558002 := n1_; have HO_569002 := n2_; have HO_577002 := n3_; have BK550 := n4_; have BK557 := n5_; have BK568 := n6_; have BK576 := n7_; have HB := n8_; clear n0_ n1_ n2_ n3_ n4_ n5_ n6_ n7_ n8_; (try clear hb); (try clear hb2); (try clear hk); (try clear hi))); try go_wp2_with (first | (go_at_call 24; (with_reducible refine (rialtolaw08_live.calls k2  t581 _ A70.out).mono ?_); rintro e w71 ⟨rfl, hb⟩; have n0_ := Aside0.mk (Kd.R_below (by (with_reducible repeat (first | apply Kd.R_alloc | apply Kd.R_drewN | apply Kd.R_drew)); exact HO_8.out) hb); have n1_ := Aside0.mk (Kd.R_below (by (with_reducible repeat (first | apply Kd.R_alloc | apply Kd.R_drewN | apply Kd.R_drew)); exact HO_558002.out) hb); have n2_ := Aside0.mk (Kd.R_below (by (with_reducible repeat (first | apply Kd.R_alloc | apply Kd.R_drewN | apply Kd.R_drew)); exact HO_569002.out) hb); have n3_ := Aside0.mk (Kd.R_below (by (with_reducible repeat (first | apply Kd.R_alloc | apply Kd.R_drewN | apply Kd.R_drew)); exact HO_577002.out) hb); have n4_ := Aside0.mk (blk_below (g := gb550) (o := .cells #[.int .i64 a0_0, .int .i64 a0_1, .slice A0_2 l0_2.length c0_2, .int .i64 a0_3] 26 (0, 0)) (by (with_reducible repeat (first | refine blk_drewN ?_ _ | refine blk_drew ?_ | refine blk_alloc ?_ _)); exact BK550.out) hb); have n5_ := Aside0.mk (blk_below (g := gb557) (o := .cells #[.int .i64 t551, .int .i64 t552, .slice Ao15 t553.length co15, .int .i64 t556] 26 (0, 0)) (by (with_reducible repeat (first | refine blk_drewN ?_ _ | refine blk_drew ?_ | refine blk_alloc ?_ _)); exact BK557.out) hb); have n6_ := Aside0.mk (blk_below (g := gb568) (o := .cells #[.int .i64 t561, .int .i64 t562, .slice Ao24 t563.length co24, .int .i64 t566] 26 (0, 0)) (by (with_reducible repeat (first | refine blk_drewN ?_ _ | refine blk_drew ?_ | refine blk_alloc ?_ _)); exact BK568.out) hb); have n7_ := Aside0.mk (blk_below (g := gb576) (o := .cells #[.int .i64 t569, .int .i64 t570, .slice Ao32 t571.length co32, .int .i64 t574] 26 (0, 0)) (by (with_reducible repeat (first | refine blk_drewN ?_ _ | refine blk_drew ?_ | refine blk_alloc ?_ _)); exact BK576.out) hb); have n8_ := Aside0.mk (below_step (by repeat (first | (with_reducible first | exact HB.out | apply below_alloc | apply pw_below_drewN | apply below_drew1 | refine below_set ?_ GE550.out | refine below_set ?_ GE557.out | refine below_set ?_ GE568.out | refine below_set ?_ GE576.out) | exact HB.out)) hb); clear HO_8; clear HO_558002; clear HO_569002; clear HO_577002; clear BK550; clear BK557; clear BK568; clear BK576; clear HB; have HO_8 := n0_; have HO_558002 := n1_; have HO_569002 := n2_; have HO_577002 := n3_; have BK550 := n4_; have BK557 := n5_; have BK568 := n6_; have BK576 := n7_; have HB := n8_; clear n0_ n1_ n2_ n3_ n4_ n5_ n6_ n7_ n8_; (try clear hb); (try clear hb2); (try clear hk); (try clear hi))))
                go_ret
                exact ⟨by first | rfl | (simp [errW_none, errW_some] <;> rfl) | (simp [*, errW_none, errW_some] <;> rfl), by repeat (first | (with_reducible first | exact HB.out | apply below_alloc | apply pw_below_drewN | apply below_drew1 | refine below_set ?_ GE550.out | refine below_set ?_ GE557.out | refine below_set ?_ GE568.out | refine below_set ?_ GE576.out) | exact HB.out)⟩
              · replace c69 := Bool.eq_false_iff.mpr c69
                subst c69
                have H1 : (some false) = some r := by rw [if_neg (show ¬ (false = true) by decide)] at H; exact H
                clear H
                have H := H1
                clear H1
                obtain rfl := Option.some.inj H
                go_wp2
                repeat (go_quiet (fail); try go_wp2)
                go_ret
                exact ⟨by first | rfl | (simp [errW_none, errW_some] <;> rfl) | (simp [*, errW_none, errW_some] <;> rfl), by repeat (first | (with_reducible first | exact HB.out | apply below_alloc | apply pw_below_drewN | apply below_drew1 | refine below_set ?_ GE550.out | refine below_set ?_ GE557.out | refine below_set ?_ GE568.out | refine below_set ?_ GE576.out) | exact HB.out)⟩
  · rw [if_neg c5] at H
    exact absurd H (by simp)

end Go.Proofs.Ytiebeiloooblpaa.E
end
section
-- the statement of a law, by myprint.py
namespace Go.Proofs.Ytiebeiloooblpaa.E
open Go.RowKit Go.Proofs.YtiebeiloooblpaaW.PrintWords Go.Proofs.YtiebeiloooblpaaW.PrintLast Go.Proofs.YtiebeiloooblpaaW.PrintMore
attribute [local go_sem] max2_int min2_int max_two min_two max_three min_three max_four min_four   -- for this text's walks alone
set_option linter.unusedVariables false
set_option linter.unusedSimpArgs false

def GEl33 (x : S33) : Prop := ((Lit.int .i64 x.f0).wf = true) ∧ ((Lit.int .i64 x.f1).wf = true) ∧ x.f2.size ≤ 140737488351232
/-- THE PURE STATEMENT of rialtolaw08_EntriesAdvance. -/
def rialtolaw08_EntriesAdvance.Pure : Prop := ∀ (a0_0 : Int) (a0_1 : Int) (l0_2 : List (S33)) (a0_3 : Int) (a1 : Int) (l2 : List Int), ((Lit.int .i64 a0_0).wf = true) → ((Lit.int .i64 a0_1).wf = true) → (l0_2.length * 32 ≤ 140737488351232 ∧ ∀ y_ ∈ l0_2, GEl33 y_) → ((Lit.int .i64 a0_3).wf = true) → ((Lit.int .i64 a1).wf = true) → (l2.length * 8 ≤ 140737488351232 ∧ ∀ y_ ∈ l2, (Lit.int .i64 y_).wf = true) → ∃ k, rialtolaw08_EntriesAdvance.f k a0_0 a0_1 l0_2 a0_3 a1 l2 = some true
end Go.Proofs.Ytiebeiloooblpaa.E
end
section
/- Rounds: from some round on a function answers; words for plain laws. -/
namespace Go.Proofs.YtiebeiloooblpaaW.PrintWords
theorem Ev.eqv {α : Type} {F : Nat → Option α} {v u : α} (h : Ev F u) (e : u = v) : Ev F v := e ▸ h
theorem Ev.ite {α : Type} {c : Prop} [Decidable c] {F G : Nat → Option α} {v : α} (h : c → Ev F v) (g : ¬ c → Ev G v) : Ev (fun k => if c then F k else G k) v := by
  by_cases hc : c
  · simpa [hc] using h hc
  · simpa [hc] using g hc
theorem Ev.pos {α : Type} {c : Prop} [Decidable c] {F G : Nat → Option α} {v : α} (hc : c) (h : Ev F v) : Ev (fun k => if c then F k else G k) v := by
  simpa [hc] using h
theorem Ev.neg {α : Type} {c : Prop} [Decidable c] {F G : Nat → Option α} {v : α} (hc : ¬ c) (h : Ev G v) : Ev (fun k => if c then F k else G k) v := by
  simpa [hc] using h
theorem Ev.succ {α : Type} {F : Nat → Option α} {v : α} (h : Ev (fun k => F (k + 1)) v) : Ev F v := Ev.step (fun _ => rfl) h
end Go.Proofs.YtiebeiloooblpaaW.PrintWords
namespace Go.Proofs.YtiebeiloooblpaaEV
open Go.RowKit Go.Proofs.YtiebeiloooblpaaW.PrintWords
theorem w64 (n : Int) (h0 : -9223372036854775808 ≤ n) (h1 : n ≤ 9223372036854775807) : wrap64 n = n := by
  unfold wrap64; omega
theorem drop_one {α : Type} (l : List α) (d : α) (n : Nat) (h : n < l.length) : l.drop n = l.getD n d :: l.drop (n + 1) := by
  rw [List.drop_eq_getElem_cons h]; simp [List.getD, h]
end Go.Proofs.YtiebeiloooblpaaEV
end
section
namespace Go.Proofs.Ytiebeiloooblpaa.Pure
open Go.RowKit Go.Proofs.Ytiebeiloooblpaa.E Go.Proofs.YtiebeiloooblpaaW.PrintWords Go.Proofs.YtiebeiloooblpaaW.PrintLast Go.Proofs.YtiebeiloooblpaaW.PrintMore Go.Proofs.YtiebeiloooblpaaEV
-- the plain law of layer 8's logs
def isEn (x : S33) : Bool := entries_isEntry.p x.f0 x.f1 x.f2
def isMk (i t : Int) : Bool := (decide (0 ≤ i) && decide (i ≤ 1000000)) && ((decide (0 ≤ t) && decide (t ≤ 1000000)) && ((i == 0) == (t == 0)))
def rows : List S33 → Int → Bool
  | [], _ => true
  | x :: l, f => isEn x && (decide (f ≤ x.f0) && rows l x.f0)
def chk (b0 b1 : Int) (l : List S33) (c : Int) : Bool := isMk b0 b1 && (decide (l.length ≤ 400) && (rows l b1 && (decide (b0 + l.length ≤ 1000000) && (decide (b0 ≤ c) && decide (c ≤ b0 + l.length)))))

theorem entries_within_eq (a b c : Int) : entries_within.f a b c = some (decide (b ≤ a) && decide (a ≤ c)) := by
  unfold entries_within.f; by_cases h : b ≤ a <;> simp [h]
theorem ref08_within_eq (a b c : Int) : rialtoref08_within.f a b c = some (decide (b ≤ a) && decide (a ≤ c)) := by
  unfold rialtoref08_within.f; by_cases h : b ≤ a <;> simp [h]
theorem ref07_within_eq (a b c : Int) : rialtoref07_within.f a b c = some (decide (b ≤ a) && decide (a ≤ c)) := by
  unfold rialtoref07_within.f; by_cases h : b ≤ a <;> simp [h]
theorem entries_isMark_eq (i t : Int) : entries_isMark.f i t = some (isMk i t) := by
  unfold entries_isMark.f isMk
  simp only [entries_within_eq, Option.bind_some]
  by_cases h : (decide (0 ≤ i) && decide (i ≤ 1000000)) = true
  · rw [if_pos h, h]
    by_cases g : (decide (0 ≤ t) && decide (t ≤ 1000000)) = true
    · rw [if_pos g, g]; simp
    · rw [if_neg g]; simp [Bool.eq_false_iff.mpr g]
  · rw [if_neg h]; simp [Bool.eq_false_iff.mpr h]
theorem ref07_Mark_eq (i t : Int) : rialtoref07_Mark.f i t = some (isMk i t) := by
  unfold rialtoref07_Mark.f isMk
  simp only [ref07_within_eq, Option.bind_some]
  by_cases h : (decide (0 ≤ i) && decide (i ≤ 1000000)) = true
  · rw [if_pos h, h]
    by_cases g : (decide (0 ≤ t) && decide (t ≤ 1000000)) = true
    · rw [if_pos g, g]; simp
    · rw [if_neg g]; simp [Bool.eq_false_iff.mpr g]
  · rw [if_neg h]; simp [Bool.eq_false_iff.mpr h]
theorem ref08_Entry_eq (a b : Int) (s : ByteArray) : rialtoref08_Entry.f a b s = some (entries_isEntry.p a b s) := by
  unfold rialtoref08_Entry.f entries_isEntry.p
  simp only [ref08_within_eq, Option.bind_some]
  by_cases h : (decide (1 ≤ a) && decide (a ≤ 1000000)) = true
  · rw [if_pos h, h]
    by_cases hb : b = 1
    · subst hb
      by_cases hs : s.toList = ([] : List UInt8)
      · simp [hs]
      · simp [hs]
    · by_cases hb2 : b = 2
      · subst hb2; simp
      · simp [hb, hb2]
  · rw [if_neg h]; simp [Bool.eq_false_iff.mpr h]
theorem rd33 (l : List S33) (n : Nat) : rd_T33 l (n : Int) = l.getD n z33 := by simp [rd_T33]

theorem entries_rising_l (l : List S33) (hl : l.length < 4398046511104) (m n : Nat) (hn : n + m = l.length) (a : Int) :
    Ev (fun k => entries_rising.l0 k a l (l.length : Int) (n : Int)) (rows (l.drop n) a) := by
  induction m generalizing n a with
  | zero =>
    refine Ev.succ ?_
    simp only [entries_rising.l0]
    refine Ev.neg (by omega) ?_
    rw [List.drop_eq_nil_of_le (by omega)]
    exact Ev.now _
  | succ m ih =>
    refine Ev.succ ?_
    simp only [entries_rising.l0]
    refine Ev.pos (by omega) ?_
    refine Ev.pos (by omega) ?_
    refine Ev.pos (by omega) ?_
    rw [rd33, drop_one l z33 n (by omega)]
    unfold entries_isEntry.f
    simp only [Option.bind_some, rows, isEn]
    by_cases h : entries_isEntry.p (l.getD n z33).f0 (l.getD n z33).f1 (l.getD n z33).f2 = true
    · simp only [h, if_true, Bool.true_and]
      by_cases g : (l.getD n z33).f0 < a
      · simp only [g, if_true]
        rw [decide_eq_false (show ¬ a ≤ (l.getD n z33).f0 by omega), Bool.false_and]
        exact Ev.now _
      · simp only [g, if_false]
        rw [w64 _ (by omega) (by omega)]
        have := ih (n + 1) (by omega) (l.getD n z33).f0
        rw [decide_eq_true (show a ≤ (l.getD n z33).f0 by omega), Bool.true_and]
        exact this
    · simp only [Bool.eq_false_iff.mpr h, Bool.false_eq_true, if_false, Bool.false_and]
      exact Ev.now _
theorem ref08_Rows_l (l : List S33) (hl : l.length < 4398046511104) (m n : Nat) (hn : n + m = l.length) (a : Int) :
    Ev (fun k => rialtoref08_Rows.l0 k l a (n : Int)) (rows (l.drop n) a) := by
  induction m generalizing n a with
  | zero =>
    refine Ev.succ ?_
    simp only [rialtoref08_Rows.l0]
    refine Ev.neg (by omega) ?_
    rw [List.drop_eq_nil_of_le (by omega)]
    exact Ev.now _
  | succ m ih =>
    refine Ev.succ ?_
    simp only [rialtoref08_Rows.l0]
    refine Ev.pos (by omega) ?_
    refine Ev.pos (by omega) ?_
    rw [rd33, drop_one l z33 n (by omega)]
    simp only [ref08_Entry_eq, Option.bind_some, rows, isEn]
    by_cases h : entries_isEntry.p (l.getD n z33).f0 (l.getD n z33).f1 (l.getD n z33).f2 = true
    · simp only [h, if_true, Bool.true_and]
      by_cases g : (l.getD n z33).f0 < a
      · simp only [g, if_true]
        rw [decide_eq_false (show ¬ a ≤ (l.getD n z33).f0 by omega), Bool.false_and]
        exact Ev.now _
      · simp only [g, if_false]
        rw [w64 _ (by omega) (by omega)]
        have := ih (n + 1) (by omega) (l.getD n z33).f0
        rw [decide_eq_true (show a ≤ (l.getD n z33).f0 by omega), Bool.true_and]
        exact this
    · simp only [Bool.eq_false_iff.mpr h, Bool.false_eq_true, if_false, Bool.false_and]
      exact Ev.now _
theorem entries_rising_ev (l : List S33) (hl : l.length < 4398046511104) (a : Int) : Ev (fun k => entries_rising.f k l a) (rows l a) := by
  have := entries_rising_l l hl l.length 0 (by omega) a
  simpa [entries_rising.f] using this
theorem ref08_Rows_ev (l : List S33) (hl : l.length < 4398046511104) (a : Int) : Ev (fun k => rialtoref08_Rows.f k l a) (rows l a) := by
  have := ref08_Rows_l l hl l.length 0 (by omega) a
  simpa [rialtoref08_Rows.f] using this
theorem isMk_of {i t : Int} (h : isMk i t = true) : 0 ≤ i ∧ i ≤ 1000000 ∧ 0 ≤ t ∧ t ≤ 1000000 ∧ (i = 0 ↔ t = 0) := by
  simp only [isMk, Bool.and_eq_true, decide_eq_true_eq, beq_iff_eq] at h
  obtain ⟨⟨h1, h2⟩, ⟨h3, h4⟩, h5⟩ := h
  refine ⟨h1, h2, h3, h4, ?_⟩
  by_cases hi : i = 0
  · by_cases ht : t = 0
    · simp [hi, ht]
    · simp [hi, ht] at h5
  · by_cases ht : t = 0
    · simp [hi, ht] at h5
    · simp [hi, ht]
theorem chk_of {b0 b1 : Int} {l : List S33} {c : Int} (h : chk b0 b1 l c = true) : (0 ≤ b0 ∧ b0 ≤ 1000000 ∧ 0 ≤ b1 ∧ b1 ≤ 1000000 ∧ (b0 = 0 ↔ b1 = 0)) ∧ l.length ≤ 400 ∧ rows l b1 = true ∧ b0 + l.length ≤ 1000000 ∧ b0 ≤ c ∧ c ≤ b0 + l.length := by
  simp only [chk, Bool.and_eq_true, decide_eq_true_eq] at h
  obtain ⟨h1, h2, h3, h4, h5, h6⟩ := h
  exact ⟨isMk_of h1, h2, h3, h4, h5, h6⟩
theorem entries_Check_ev (b0 b1 : Int) (l : List S33) (c : Int) (hl : l.length < 4398046511104) :
    Ev (fun k => entries_Check.f k b0 b1 l c) (if chk b0 b1 l c = true then 0 else 80) := by
  unfold entries_Check.f chk
  simp only [entries_isMark_eq, Option.bind_some]
  by_cases h1 : isMk b0 b1 = true
  · have hm := isMk_of h1
    simp only [h1, if_true, Bool.true_and]
    by_cases h2 : (l.length : Int) > 400
    · simp only [h2, if_true]
      rw [decide_eq_false (show ¬ l.length ≤ 400 by omega)]
      simp only [Bool.false_and, Bool.false_eq_true, if_false]
      exact Ev.now _
    · simp only [h2, if_false]
      rw [decide_eq_true (show l.length ≤ 400 by omega)]
      simp only [Bool.true_and]
      refine Ev.bind (entries_rising_ev l hl b1) ?_
      by_cases h3 : rows l b1 = true
      · simp only [h3, if_true, Bool.true_and, entries_end.f, Option.bind_some, entries_within_eq]
        rw [w64 _ (by omega) (by omega)]
        by_cases h4 : b0 + (l.length : Int) ≤ 1000000
        · refine Ev.neg (by omega) ?_
          simp only [h4, decide_true, Bool.true_and]
          refine Ev.ite (fun h5 => ?_) (fun h5 => ?_)
          · rw [h5]; exact Ev.now _
          · rw [Bool.eq_false_iff.mpr h5]; exact Ev.now _
        · refine Ev.pos (by omega) ?_
          simp only [h4, decide_false, Bool.false_and, Bool.false_eq_true, if_false]
          exact Ev.now _
      · simp only [Bool.eq_false_iff.mpr h3, Bool.false_and, Bool.false_eq_true, if_false]
        exact Ev.now _
  · simp only [Bool.eq_false_iff.mpr h1, Bool.false_and, Bool.false_eq_true, if_false]
    exact Ev.now _
theorem ref08_Check_ev (b0 b1 : Int) (l : List S33) (c : Int) (hl : l.length < 4398046511104) :
    Ev (fun k => rialtoref08_Check.f k b0 b1 l c) (if chk b0 b1 l c = true then 0 else 80) := by
  unfold rialtoref08_Check.f chk
  simp only [ref07_Mark_eq, Option.bind_some]
  by_cases h1 : isMk b0 b1 = true
  · have hm := isMk_of h1
    simp only [h1, if_true, Bool.true_and]
    by_cases h2 : (l.length : Int) > 400
    · simp only [h2, if_true]
      rw [decide_eq_false (show ¬ l.length ≤ 400 by omega)]
      simp only [Bool.false_and, Bool.false_eq_true, if_false]
      exact Ev.now _
    · simp only [h2, if_false]
      rw [decide_eq_true (show l.length ≤ 400 by omega)]
      simp only [Bool.true_and]
      refine Ev.bind (ref08_Rows_ev l hl b1) ?_
      by_cases h3 : rows l b1 = true
      · simp only [h3, if_true, Bool.true_and, rialtoref08_end.f, Option.bind_some, ref08_within_eq]
        rw [w64 _ (by omega) (by omega)]
        by_cases h4 : b0 + (l.length : Int) ≤ 1000000
        · refine Ev.neg (by omega) ?_
          simp only [h4, decide_true, Bool.true_and]
          refine Ev.ite (fun h5 => ?_) (fun h5 => ?_)
          · rw [h5]; exact Ev.now _
          · rw [Bool.eq_false_iff.mpr h5]; exact Ev.now _
        · refine Ev.pos (by omega) ?_
          simp only [h4, decide_false, Bool.false_and, Bool.false_eq_true, if_false]
          exact Ev.now _
      · simp only [Bool.eq_false_iff.mpr h3, Bool.false_and, Bool.false_eq_true, if_false]
        exact Ev.now _
  · simp only [Bool.eq_false_iff.mpr h1, Bool.false_and, Bool.false_eq_true, if_false]
    exact Ev.now _
/-- the term at an index of a log -/
def termAt (b0 b1 : Int) (l : List S33) (c i : Int) : Int × Bool :=
  if chk b0 b1 l c = true ∧ b0 ≤ i ∧ i ≤ b0 + l.length then (if i = b0 then (b1, true) else ((l.getD (i - b0 - 1).toNat z33).f0, true)) else (0, false)
theorem entries_TermAt_ev (b0 b1 : Int) (l : List S33) (c i : Int) (hl : l.length < 4398046511104) :
    Ev (fun k => entries_TermAt.f k b0 b1 l c i) (termAt b0 b1 l c i) := by
  unfold entries_TermAt.f termAt
  refine Ev.bind (entries_Check_ev b0 b1 l c hl) ?_
  by_cases h1 : chk b0 b1 l c = true
  · obtain ⟨hm, hn, hr, he, hc⟩ := chk_of h1
    simp only [h1, if_true, true_and, entries_end.f, entries_within_eq, Option.bind_some]
    rw [w64 _ (by omega) (by omega)]
    refine Ev.succ ?_
    simp only [entries_TermAt.j0]
    by_cases h2 : b0 ≤ i ∧ i ≤ b0 + l.length
    · rw [if_pos h2]
      obtain ⟨h2, h3⟩ := h2
      refine Ev.neg (by simp; omega) ?_
      by_cases h4 : i = b0
      · refine Ev.eqv ?_ (if_pos h4).symm
        exact Ev.pos h4 (Ev.now _)
      · refine Ev.eqv ?_ (if_neg h4).symm
        have e : wrap64 (wrap64 (i - b0) - 1) = i - b0 - 1 := by rw [w64 (i - b0) (by omega) (by omega), w64 _ (by omega) (by omega)]
        rw [e]
        exact Ev.neg h4 (Ev.pos (by omega) (Ev.pos (by omega) (Ev.now _)))
    · rw [if_neg h2]
      exact Ev.pos (by simp; omega) (Ev.now _)
  · simp only [Bool.eq_false_iff.mpr h1, Bool.false_eq_true, if_false, false_and]
    refine Ev.neg (by omega) ?_
    refine Ev.succ ?_
    simp only [entries_TermAt.j0, if_true]
    exact Ev.now _
theorem ref08_TermAt_ev (b0 b1 : Int) (l : List S33) (c i : Int) (hl : l.length < 4398046511104) :
    Ev (fun k => rialtoref08_TermAt.f k b0 b1 l c i) (termAt b0 b1 l c i) := by
  unfold rialtoref08_TermAt.f termAt
  refine Ev.bind (ref08_Check_ev b0 b1 l c hl) ?_
  by_cases h1 : chk b0 b1 l c = true
  · obtain ⟨hm, hn, hr, he, hc⟩ := chk_of h1
    simp only [h1, if_true, true_and, rialtoref08_end.f, Option.bind_some]
    rw [w64 (b0 + (l.length : Int)) (by omega) (by omega)]
    by_cases h2 : b0 ≤ i
    · refine Ev.neg (by omega) ?_
      refine Ev.succ ?_
      simp only [rialtoref08_TermAt.j0]
      by_cases h3 : i ≤ b0 + l.length
      · rw [if_pos (And.intro h2 h3)]
        refine Ev.neg (by simp; omega) ?_
        by_cases h4 : i = b0
        · refine Ev.eqv ?_ (if_pos h4).symm
          exact Ev.pos h4 (Ev.now _)
        · refine Ev.eqv ?_ (if_neg h4).symm
          have e : wrap64 (wrap64 (i - b0) - 1) = i - b0 - 1 := by rw [w64 (i - b0) (by omega) (by omega), w64 _ (by omega) (by omega)]
          rw [e]
          exact Ev.neg h4 (Ev.pos (by omega) (Ev.pos (by omega) (Ev.now _)))
      · rw [if_neg (show ¬ (b0 ≤ i ∧ i ≤ b0 + l.length) by omega)]
        exact Ev.pos (by simp; omega) (Ev.now _)
    · rw [if_neg (by omega)]
      refine Ev.pos (by omega) ?_
      refine Ev.succ ?_
      simp only [rialtoref08_TermAt.j0, if_true]
      exact Ev.now _
  · simp only [Bool.eq_false_iff.mpr h1, Bool.false_eq_true, if_false, false_and]
    refine Ev.neg (by omega) ?_
    refine Ev.succ ?_
    simp only [rialtoref08_TermAt.j0, if_true]
    exact Ev.now _
theorem ref08_SameEntries_l (l : List S33) (hl : l.length < 4398046511104) (m n : Nat) (hn : n + m = l.length) :
    Ev (fun k => rialtoref08_SameEntries.l0 k l l (n : Int)) true := by
  induction m generalizing n with
  | zero =>
    refine Ev.succ ?_
    simp only [rialtoref08_SameEntries.l0]
    refine Ev.neg (by omega) ?_
    exact Ev.now _
  | succ m ih =>
    refine Ev.succ ?_
    simp only [rialtoref08_SameEntries.l0]
    refine Ev.pos (by omega) ?_
    refine Ev.pos (by omega) ?_
    refine Ev.pos (by omega) ?_
    refine Ev.neg (by simp) ?_
    rw [w64 _ (by omega) (by omega)]
    exact ih (n + 1) (by omega)
theorem ref08_SameEntries_ev (l : List S33) (hl : l.length < 4398046511104) : Ev (fun k => rialtoref08_SameEntries.f k l l) true := by
  have := ref08_SameEntries_l l hl l.length 0 (by omega)
  simpa [rialtoref08_SameEntries.f] using this
theorem ref08_Same_ev (b0 b1 : Int) (l : List S33) (c : Int) (hl : l.length < 4398046511104) : Ev (fun k => rialtoref08_Same.f k b0 b1 l c b0 b1 l c) true := by
  unfold rialtoref08_Same.f
  refine Ev.pos (by simp) ?_
  refine Ev.pos rfl ?_
  exact Ev.bind (ref08_SameEntries_ev l hl) (Ev.now _)
theorem ref08_Copy_eq (b0 b1 : Int) (l : List S33) (c : Int) (hl : l.length < 4398046511104) : rialtoref08_Copy.f b0 b1 l c = some (b0, b1, l, c) := by
  unfold rialtoref08_Copy.f
  rw [if_pos (by simp; omega)]; simp
end Go.Proofs.Ytiebeiloooblpaa.Pure
end
section
-- written by myprint.py, a program of this session over the kit's print.py
namespace Go.Proofs.Ytiebeiloooblpaa.E
open Go.Proofs.YtiebeiloooblpaaST
open Go.RowKit Go.Proofs.YtiebeiloooblpaaW.PrintWords Go.Proofs.YtiebeiloooblpaaW.PrintLast Go.Proofs.YtiebeiloooblpaaW.PrintMore
attribute [local go_sem] max2_int min2_int max_two min_two max_three min_three max_four min_four   -- for this text's walks alone
set_option linter.unusedVariables false
set_option linter.unusedSimpArgs false

/-! ### rialtoref08_Last: function 33 -/
end Go.Proofs.Ytiebeiloooblpaa.E
end
section
-- written by myprint.py, a program of this session over the kit's print.py
namespace Go.Proofs.Ytiebeiloooblpaa.E
open Go.RowKit Go.Proofs.YtiebeiloooblpaaW.PrintWords Go.Proofs.YtiebeiloooblpaaW.PrintLast Go.Proofs.YtiebeiloooblpaaW.PrintMore
attribute [local go_sem] max2_int min2_int max_two min_two max_three min_three max_four min_four   -- for this text's walks alone
set_option linter.unusedVariables false
set_option linter.unusedSimpArgs false

/-! ### entries_From: function 29 -/
end Go.Proofs.Ytiebeiloooblpaa.E
end
section
-- written by myprint.py, a program of this session over the kit's print.py
namespace Go.Proofs.Ytiebeiloooblpaa.E
open Go.RowKit Go.Proofs.YtiebeiloooblpaaW.PrintWords Go.Proofs.YtiebeiloooblpaaW.PrintLast Go.Proofs.YtiebeiloooblpaaW.PrintMore
attribute [local go_sem] max2_int min2_int max_two min_two max_three min_three max_four min_four   -- for this text's walks alone
set_option linter.unusedVariables false
set_option linter.unusedSimpArgs false

/-! ### rialtoref08_From: function 34 -/
end Go.Proofs.Ytiebeiloooblpaa.E
end
section
-- written by myprint.py, a program of this session over the kit's print.py
namespace Go.Proofs.Ytiebeiloooblpaa.E
open Go.RowKit Go.Proofs.YtiebeiloooblpaaW.PrintWords Go.Proofs.YtiebeiloooblpaaW.PrintLast Go.Proofs.YtiebeiloooblpaaW.PrintMore
attribute [local go_sem] max2_int min2_int max_two min_two max_three min_three max_four min_four   -- for this text's walks alone
set_option linter.unusedVariables false
set_option linter.unusedSimpArgs false

/-! ### rialtolaw08_spoil: function 23 -/
end Go.Proofs.Ytiebeiloooblpaa.E
end
section
namespace Go.Proofs.Ytiebeiloooblpaa.Pure
open Go.RowKit Go.Proofs.Ytiebeiloooblpaa.E Go.Proofs.YtiebeiloooblpaaW.PrintWords Go.Proofs.YtiebeiloooblpaaW.PrintLast Go.Proofs.YtiebeiloooblpaaW.PrintMore Go.Proofs.YtiebeiloooblpaaEV
-- the plain law of layer 8: the last mark, entries from an index on
theorem live8_ev : Ev (fun k => rialtolaw08_live.f k) true := Ev.of (k := 30) (fun k => rialtolaw08_live.mono k) (by kernel_rfl)
end Go.Proofs.Ytiebeiloooblpaa.Pure
end
section
namespace Go.Proofs.Ytiebeiloooblpaa.Pure
open Go.RowKit Go.Proofs.Ytiebeiloooblpaa.E Go.Proofs.YtiebeiloooblpaaW.PrintWords Go.Proofs.YtiebeiloooblpaaW.PrintLast Go.Proofs.YtiebeiloooblpaaW.PrintMore Go.Proofs.YtiebeiloooblpaaEV
-- the plain law of an insertion sort over ints
theorem less_eq (a b : Int) : cmp_Less_int.f a b = some (decide (a < b)) := by
  unfold cmp_Less_int.f cmp_isNaN_int.f; simp
theorem gset (x : List Int) (p q : Nat) (v : Int) (h : p < x.length) : (x.set p v).getD q 0 = if p = q then v else x.getD q 0 := by
  simp only [List.getD, List.getElem?_set]
  by_cases e : p = q
  · rw [if_pos e, if_pos e, if_pos (by omega)]; rfl
  · rw [if_neg e, if_neg e]
def SortedTo (x : List Int) (n : Nat) : Prop := ∀ p q : Nat, p < q → q < n → x.getD p 0 ≤ x.getD q 0
theorem sort_l1 (n i : Nat) (hi : i < n) (j : Nat) : ∀ x : List Int, x.length = n → n < 4398046511104 → j ≤ i → (∀ p q : Nat, p < q → q ≤ i → q ≠ j → x.getD p 0 ≤ x.getD q 0) →
    ∃ y : List Int, y.Perm x ∧ SortedTo y (i + 1) ∧ ∀ r, Ev (fun k => slices_insertionSortOrdered_int.l0 k y 0 (n : Int) ((i + 1 : Nat) : Int)) r → Ev (fun k => slices_insertionSortOrdered_int.l1 k x 0 (n : Int) (i : Int) (j : Int)) r := by
  induction j with
  | zero =>
    intro x hx hn hj inv
    refine ⟨x, List.Perm.refl _, fun p q hpq hq => inv p q hpq (by omega) (by omega), fun r h => Ev.succ ?_⟩
    simp only [slices_insertionSortOrdered_int.l1]
    rw [w64 ((i : Int) + 1) (by omega) (by omega)]
    exact Ev.neg (by omega) h
  | succ j ih =>
    intro x hx hn hj inv
    have e1 : rd x ((j + 1 : Nat) : Int) = x.getD (j + 1) 0 := by simp [rd]
    have e2 : rd x (j : Int) = x.getD j 0 := by simp [rd]
    by_cases h : x.getD (j + 1) 0 < x.getD j 0
    · have hp1 : j + 1 < x.length := by omega
      have G : ∀ q, ((x.set (j + 1) (x.getD j 0)).set j (x.getD (j + 1) 0)).getD q 0 = if j = q then x.getD (j + 1) 0 else if j + 1 = q then x.getD j 0 else x.getD q 0 := fun q => by
        rw [gset _ _ _ _ (by rw [List.length_set]; omega), gset _ _ _ _ hp1]
      obtain ⟨y, hy, hs, hr⟩ := ih ((x.set (j + 1) (x.getD j 0)).set j (x.getD (j + 1) 0)) (by simpa using hx) hn (by omega) (fun p q hpq hq hqj => by
        rw [G p, G q]
        have i1 := inv p q hpq hq
        have i2 := inv p j
        have i3 := inv j q
        have i4 := inv (j + 1) q
        by_cases c1 : j = p <;> by_cases c2 : j = q <;> by_cases c3 : j + 1 = p <;> by_cases c4 : j + 1 = q <;> simp only [c1, c2, c3, c4, if_true, if_false] <;> first | omega | (subst c1; omega) | (subst c3; omega) | (subst c4; omega))
      refine ⟨y, hy.trans ?_, hs, fun r g => Ev.succ ?_⟩
      · have := List.set_set_perm hp1 (show j < x.length by omega)
        simpa [List.getD, hp1, show j < x.length by omega] using this
      · simp only [slices_insertionSortOrdered_int.l1]
        rw [w64 (((j + 1 : Nat) : Int) - 1) (by omega) (by omega), show ((j + 1 : Nat) : Int) - 1 = (j : Int) by omega, less_eq, e1, e2]
        refine Ev.pos (by omega) (Ev.pos (by omega) (Ev.pos (by omega) (Ev.pos (by omega) (Ev.pos (by omega) (Ev.bind (Ev.now _) (Ev.pos (decide_eq_true h) ?_))))))
        exact hr r g
    · refine ⟨x, List.Perm.refl _, fun p q hpq hq => ?_, fun r g => Ev.succ ?_⟩
      · by_cases e : q = j + 1
        · subst e
          by_cases e' : p = j
          · subst e'; omega
          · have := inv p j (by omega) (by omega) (by omega); omega
        · exact inv p q hpq (by omega) e
      · simp only [slices_insertionSortOrdered_int.l1]
        rw [w64 (((j + 1 : Nat) : Int) - 1) (by omega) (by omega), show ((j + 1 : Nat) : Int) - 1 = (j : Int) by omega, less_eq, e1, e2, w64 ((i : Int) + 1) (by omega) (by omega)]
        exact Ev.pos (by omega) (Ev.pos (by omega) (Ev.pos (by omega) (Ev.pos (by omega) (Ev.pos (by omega) (Ev.bind (Ev.now _) (Ev.neg (by simpa using h) g))))))
theorem sort_l0 (n d : Nat) (hn : n < 4398046511104) : ∀ (i : Nat) (x : List Int), x.length = n → SortedTo x i → i + d = n →
    ∃ y : List Int, y.Perm x ∧ SortedTo y n ∧ Ev (fun k => slices_insertionSortOrdered_int.l0 k x 0 (n : Int) (i : Int)) y := by
  induction d with
  | zero =>
    intro i x hx hs hi
    refine ⟨x, List.Perm.refl _, by rw [← hi]; exact hs, Ev.succ ?_⟩
    simp only [slices_insertionSortOrdered_int.l0]
    exact Ev.neg (by omega) (Ev.now _)
  | succ d ih =>
    intro i x hx hs hi
    obtain ⟨y, hy, hsy, hr⟩ := sort_l1 n i (by omega) i x hx hn (Nat.le_refl _) (fun p q hpq hq hne => hs p q hpq (by omega))
    obtain ⟨z, hz, hsz, hev⟩ := ih (i + 1) y (by rw [hy.length_eq]; exact hx) hsy (by omega)
    refine ⟨z, hz.trans hy, hsz, Ev.succ ?_⟩
    simp only [slices_insertionSortOrdered_int.l0]
    exact Ev.pos (by omega) (hr z hev)
theorem sort_ev (x : List Int) (hn : x.length < 4398046511104) (h0 : 0 < x.length) : ∃ y : List Int, y.Perm x ∧ SortedTo y x.length ∧ Ev (fun k => slices_insertionSortOrdered_int.f k x 0 (x.length : Int)) y := by
  obtain ⟨y, hy, hs, he⟩ := sort_l0 x.length (x.length - 1) hn 1 x rfl (fun p q _ _ => by omega) (by omega)
  refine ⟨y, hy, hs, ?_⟩
  unfold slices_insertionSortOrdered_int.f
  rw [w64 (0 + 1) (by omega) (by omega)]
  exact he
theorem cnt_ge {r : List Int} (hs : SortedTo r r.length) (j : Nat) (hj : j < r.length) : r.length - j ≤ r.countP (fun y => decide (r.getD j 0 ≤ y)) := by
  have e : r.countP (fun y => decide (r.getD j 0 ≤ y)) = (r.take j).countP (fun y => decide (r.getD j 0 ≤ y)) + (r.drop j).countP (fun y => decide (r.getD j 0 ≤ y)) := by rw [← List.countP_append, List.take_append_drop]
  have f : (r.drop j).countP (fun y => decide (r.getD j 0 ≤ y)) = (r.drop j).length := List.countP_eq_length.2 (fun y hy => by
    obtain ⟨t, ht, rfl⟩ := List.getElem_of_mem hy
    rw [List.getElem_drop]
    rw [List.length_drop] at ht
    apply decide_eq_true
    by_cases h0 : t = 0
    · subst h0; simp [List.getD, hj]
    · have := hs j (j + t) (by omega) (by omega)
      simpa [List.getD, show j + t < r.length by omega] using this)
  rw [e, f, List.length_drop]; omega
theorem cnt_lt {r : List Int} (hs : SortedTo r r.length) (j : Nat) (hj : j < r.length) (x : Int) (hx : r.getD j 0 < x) : r.countP (fun y => decide (x ≤ y)) ≤ r.length - 1 - j := by
  have e : r.countP (fun y => decide (x ≤ y)) = (r.take (j + 1)).countP (fun y => decide (x ≤ y)) + (r.drop (j + 1)).countP (fun y => decide (x ≤ y)) := by rw [← List.countP_append, List.take_append_drop]
  have f : (r.take (j + 1)).countP (fun y => decide (x ≤ y)) = 0 := List.countP_eq_zero.2 (fun y hy => by
    obtain ⟨t, ht, rfl⟩ := List.getElem_of_mem hy
    rw [List.getElem_take]
    rw [List.length_take] at ht
    have : r.getD t 0 ≤ r.getD j 0 := by
      by_cases h0 : t = j
      · subst h0; exact Int.le_refl _
      · exact hs t j (by omega) hj
    simp only [List.getD, List.getElem?_eq_getElem (show t < r.length by omega), Option.getD_some] at this
    simp only [decide_eq_true_eq]; simp only [List.getD] at hx; omega)
  have g := List.countP_le_length (p := fun y => decide (x ≤ y)) (l := r.drop (j + 1))
  rw [List.length_drop] at g
  rw [e, f]; omega
theorem foldl_min_neg (zs : List Int) : ∀ a : Int, zs.foldl min a < 0 ↔ (a < 0 ∨ ∃ x ∈ zs, x < 0) := by
  induction zs with
  | nil => intro a; simp
  | cons z zs ih =>
    intro a
    rw [List.foldl_cons, ih]
    constructor
    · rintro (h | ⟨x, hx, h⟩)
      · by_cases g : a < 0
        · exact .inl g
        · exact .inr ⟨z, List.mem_cons_self, by omega⟩
      · exact .inr ⟨x, List.mem_cons_of_mem _ hx, h⟩
    · rintro (h | ⟨x, hx, h⟩)
      · exact .inl (by omega)
      · rcases List.mem_cons.1 hx with rfl | hx
        · exact .inl (by omega)
        · exact .inr ⟨x, hx, h⟩
theorem minOf_neg {zs : List Int} (h : 0 < zs.length) : Lib.minOf zs < 0 ↔ ∃ x ∈ zs, x < 0 := by
  unfold Lib.minOf
  rw [foldl_min_neg]
  cases zs with
  | nil => simp at h
  | cons z zs =>
    constructor
    · rintro (h | h)
      · exact ⟨z, List.mem_cons_self, h⟩
      · exact h
    · exact fun h => .inr h

end Go.Proofs.Ytiebeiloooblpaa.Pure
end
section
namespace Go.Proofs.Ytiebeiloooblpaa.Pure
open Go.RowKit Go.Proofs.Ytiebeiloooblpaa.E Go.Proofs.YtiebeiloooblpaaW.PrintWords Go.Proofs.YtiebeiloooblpaaW.PrintLast Go.Proofs.YtiebeiloooblpaaW.PrintMore Go.Proofs.YtiebeiloooblpaaEV
def advV (b0 b1 : Int) (l : List S33) (c t m : Int) : Int × Int × List S33 × Int × Int :=
  if c < m ∧ (termAt b0 b1 l c m).2 = true ∧ (termAt b0 b1 l c m).1 = t then (b0, b1, l, m, 0) else (b0, b1, l, c, 0)
section
variable (b0 b1 : Int) (l : List S33) (c t : Int) (z : List Int)
def cntOf (x : Int) (z : List Int) : Nat := z.countP (fun y => decide (x ≤ y))
theorem adv_l1 (hz : z.length ≤ 7) (best : Int) (i : Nat) (hi : i < z.length) (d : Nat) : ∀ j : Nat, j + d = z.length → ∀ r, Ev (fun k => rialtoref08_Advance.l0 k t z (if 2 * cntOf (z.getD i 0) z > z.length then mx best (z.getD i 0) else best) ((i + 1 : Nat) : Int) b0 b1 l c) r →
    Ev (fun k => rialtoref08_Advance.l1 k t z best (i : Int) (cntOf (z.getD i 0) (z.take j) : Int) (j : Int) b0 b1 l c) r := by
  have ei : rd z (i : Int) = z.getD i 0 := by simp [rd]
  induction d with
  | zero =>
    intro j hj r h
    have hle : cntOf (z.getD i 0) (z.take j) ≤ z.length := by unfold cntOf; have := List.countP_le_length (p := fun y => decide (z.getD i 0 ≤ y)) (l := z.take j); rw [List.length_take] at this; omega
    refine Ev.succ ?_
    simp only [rialtoref08_Advance.l1]
    rw [w64 (2 * _) (by omega) (by omega), w64 ((i : Int) + 1) (by omega) (by omega), ei]
    refine Ev.neg (by omega) ?_
    rw [List.take_of_length_le (show z.length ≤ j by omega)]
    by_cases g : 2 * cntOf (z.getD i 0) z > z.length
    · rw [if_pos g] at h
      exact Ev.pos (by omega) (Ev.pos (by omega) (Ev.pos (by omega) h))
    · rw [if_neg g] at h
      exact Ev.neg (by omega) h
  | succ d ih =>
    intro j hj r h
    have hle : cntOf (z.getD i 0) (z.take j) ≤ z.length := by unfold cntOf; have := List.countP_le_length (p := fun y => decide (z.getD i 0 ≤ y)) (l := z.take j); rw [List.length_take] at this; omega
    have ej : rd z (j : Int) = z.getD j 0 := by simp [rd]
    have hstep : cntOf (z.getD i 0) (z.take (j + 1)) = cntOf (z.getD i 0) (z.take j) + (if z.getD i 0 ≤ z.getD j 0 then 1 else 0) := by
      unfold cntOf
      rw [List.take_succ_eq_append_getElem (by omega), List.countP_append, List.countP_singleton]
      have e : z[j] = z.getD j 0 := by simp [List.getD, show j < z.length by omega]
      rw [e]
      congr 1
      simp only [decide_eq_true_eq]
    refine Ev.succ ?_
    simp only [rialtoref08_Advance.l1]
    rw [w64 ((j : Int) + 1) (by omega) (by omega), w64 ((cntOf (z.getD i 0) (z.take j) : Int) + 1) (by omega) (by omega), ei, ej]
    refine Ev.pos (by omega) (Ev.pos (by omega) (Ev.pos (by omega) (Ev.pos (by omega) ?_)))
    have := ih (j + 1) (by omega) r h
    rw [hstep] at this
    by_cases g : z.getD j 0 ≥ z.getD i 0
    · rw [if_pos g] at this
      exact Ev.pos g this
    · rw [if_neg g] at this
      exact Ev.neg g this
theorem adv_neg (hz : z.length ≤ 7) (d : Nat) : ∀ (i : Nat) (best : Int), (∃ q : Nat, i ≤ q ∧ q < z.length ∧ z.getD q 0 < 0) → i + d = z.length → Ev (fun k => rialtoref08_Advance.l0 k t z best (i : Int) b0 b1 l c) (0, 0, [], 0, 1) := by
  induction d with
  | zero => rintro i best ⟨q, h1, h2, h3⟩ h4; omega
  | succ d ih =>
    rintro i best ⟨q, h1, h2, h3⟩ h4
    have ei : rd z (i : Int) = z.getD i 0 := by simp [rd]
    refine Ev.succ ?_
    simp only [rialtoref08_Advance.l0]
    rw [ei]
    refine Ev.pos (by omega) (Ev.pos (by omega) ?_)
    by_cases g : z.getD i 0 < 0
    · exact Ev.pos g (Ev.now _)
    · refine Ev.neg g ?_
      refine adv_l1 b0 b1 l c t z hz best i (by omega) z.length 0 (by omega) _ ?_
      exact ih (i + 1) _ ⟨q, by by_cases e : q = i; (subst e; omega); omega, h2, h3⟩ (by omega)
theorem adv_pos (hl : l.length < 4398046511104) (hz : z.length ≤ 7) (h0 : ∀ q : Nat, q < z.length → 0 ≤ z.getD q 0) (m : Int) (hm : ∀ q : Nat, q < z.length → (2 * cntOf (z.getD q 0) z > z.length ↔ z.getD q 0 ≤ m)) (hmem : ∃ q : Nat, q < z.length ∧ z.getD q 0 = m) (d : Nat) :
    ∀ (i : Nat) (best : Int), i + d = z.length → best ≤ m → (∀ q : Nat, q < i → z.getD q 0 ≤ m → z.getD q 0 ≤ best) → Ev (fun k => rialtoref08_Advance.l0 k t z best (i : Int) b0 b1 l c) (advV b0 b1 l c t m) := by
  induction d with
  | zero =>
    intro i best hi hb hq
    obtain ⟨q, hql, hqm⟩ := hmem
    obtain rfl : best = m := by have := hq q (by omega) (by omega); omega
    refine Ev.succ ?_
    simp only [rialtoref08_Advance.l0]
    rw [ref08_Copy_eq b0 b1 l c hl]
    refine Ev.neg (by omega) (Ev.bind (Ev.now _) (Ev.bind (ref08_TermAt_ev b0 b1 l c best hl) ?_))
    unfold advV
    by_cases g1 : best > c
    · refine Ev.pos g1 ?_
      by_cases g2 : (termAt b0 b1 l c best).2 = true
      · refine Ev.pos g2 ?_
        by_cases g3 : (termAt b0 b1 l c best).1 = t
        · exact Ev.eqv (Ev.pos g3 (Ev.now _)) (if_pos ⟨g1, g2, g3⟩).symm
        · exact Ev.eqv (Ev.neg g3 (Ev.now _)) (if_neg (fun g => g3 g.2.2)).symm
      · exact Ev.eqv (Ev.neg g2 (Ev.now _)) (if_neg (fun g => g2 g.2.1)).symm
    · exact Ev.eqv (Ev.neg g1 (Ev.now _)) (if_neg (fun g => g1 g.1)).symm
  | succ d ih =>
    intro i best hi hb hq
    have ei : rd z (i : Int) = z.getD i 0 := by simp [rd]
    have hi0 := h0 i (by omega)
    refine Ev.succ ?_
    simp only [rialtoref08_Advance.l0]
    rw [ei]
    refine Ev.pos (by omega) (Ev.pos (by omega) (Ev.neg (by omega) ?_))
    refine adv_l1 b0 b1 l c t z hz best i (by omega) z.length 0 (by omega) _ ?_
    have hmi := hm i (by omega)
    by_cases g : 2 * cntOf (z.getD i 0) z > z.length
    · rw [if_pos g]
      have gm := hmi.1 g
      refine ih (i + 1) _ (by omega) (by unfold mx; split <;> omega) (fun q hqi hqm => ?_)
      by_cases e : q = i
      · subst e; unfold mx; split <;> omega
      · have := hq q (by omega) hqm; unfold mx; split <;> omega
    · rw [if_neg g]
      refine ih (i + 1) _ (by omega) hb (fun q hqi hqm => ?_)
      by_cases e : q = i
      · subst e; exact absurd (hmi.2 hqm) g
      · exact hq q (by omega) hqm
theorem both_ev (hl : l.length < 4398046511104) : ∃ v, Ev (fun k => entries_Advance.f k b0 b1 l c t z) v ∧ Ev (fun k => rialtoref08_Advance.f k b0 b1 l c t z) v ∧ v.2.2.1.length < 4398046511104 := by
  by_cases h1 : chk b0 b1 l c = true
  · by_cases h2 : t < 1 ∨ 1000000 < t ∨ (z.length : Int) < 1 ∨ 7 < (z.length : Int)
    · refine ⟨(0, 0, [], 0, 1), ?_, ?_, by simp⟩
      · unfold entries_Advance.f
        refine Ev.bind (entries_Check_ev b0 b1 l c hl) ?_
        simp only [h1, if_true]
        exact Ev.pos (by omega) (Ev.now _)
      · unfold rialtoref08_Advance.f
        refine Ev.bind (ref08_Check_ev b0 b1 l c hl) ?_
        have no : Ev (fun k => rialtoref08_Advance.j0 k t z true b0 b1 l c) (0, 0, [], 0, 1) := by
          refine Ev.succ ?_
          simp only [rialtoref08_Advance.j0, if_true]; exact Ev.now _
        simp only [h1, if_true, ref08_within_eq, Option.bind_some]
        by_cases g : (decide (1 ≤ t) && decide (t ≤ 1000000)) = true
        · refine Ev.pos g ?_
          rw [show (decide (1 ≤ (z.length : Int)) && decide ((z.length : Int) ≤ 7)) = false by
            simp only [Bool.and_eq_true, decide_eq_true_eq] at g
            rw [Bool.eq_false_iff]; simp only [ne_eq, Bool.and_eq_true, decide_eq_true_eq]; omega]
          exact no
        · exact Ev.neg g no
    · have hz0 : 0 < z.length := by omega
      have hz7 : z.length ≤ 7 := by omega
      have refgo : ∀ v, Ev (fun k => rialtoref08_Advance.l0 k t z (-1) ((0 : Nat) : Int) b0 b1 l c) v → Ev (fun k => rialtoref08_Advance.f k b0 b1 l c t z) v := by
        intro v h
        unfold rialtoref08_Advance.f
        refine Ev.bind (ref08_Check_ev b0 b1 l c hl) ?_
        simp only [h1, if_true, ref08_within_eq, Option.bind_some]
        refine Ev.pos (by simp only [Bool.and_eq_true, decide_eq_true_eq]; omega) ?_
        rw [show (decide (1 ≤ (z.length : Int)) && decide ((z.length : Int) ≤ 7)) = true by simp only [Bool.and_eq_true, decide_eq_true_eq]; omega]
        refine Ev.succ ?_
        simp only [rialtoref08_Advance.j0, Bool.not_true, Bool.false_eq_true, if_false]
        exact h
      by_cases h3 : Lib.minOf z < 0
      · refine ⟨(0, 0, [], 0, 1), ?_, refgo _ ?_, by simp⟩
        · unfold entries_Advance.f
          refine Ev.bind (entries_Check_ev b0 b1 l c hl) ?_
          simp only [h1, if_true]
          exact Ev.pos (by omega) (Ev.now _)
        · obtain ⟨x, hx, hx0⟩ := (minOf_neg hz0).1 h3
          obtain ⟨q, hq, rfl⟩ := List.getElem_of_mem hx
          exact adv_neg b0 b1 l c t z hz7 z.length 0 (-1) ⟨q, by omega, hq, by simpa [List.getD, hq] using hx0⟩ (by omega)
      · obtain ⟨row, hp, hs, hev⟩ := sort_ev z (by omega) hz0
        have hlen := hp.length_eq
        obtain ⟨m, hm⟩ : ∃ m, m = row.getD ((z.length - 1) / 2) 0 := ⟨_, rfl⟩
        have em : rd row (((z.length - 1) / 2 : Nat) : Int) = m := by rw [hm, rd, Int.toNat_natCast]
        rw [← hlen] at hs
        have hj : (z.length - 1) / 2 < row.length := by omega
        have hcnt : ∀ x, cntOf x z = row.countP (fun y => decide (x ≤ y)) := fun x => (hp.countP_eq _).symm
        refine ⟨advV b0 b1 l c t m, ?_, refgo _ ?_, by unfold advV; split <;> exact hl⟩
        · unfold entries_Advance.f
          refine Ev.bind (entries_Check_ev b0 b1 l c hl) ?_
          simp only [h1, if_true]
          refine Ev.neg (by omega) (Ev.bind hev ?_)
          rw [em]
          refine Ev.bind (entries_TermAt_ev b0 b1 l c m hl) (Ev.pos hl ?_)
          unfold advV
          exact Ev.ite (fun g => Ev.eqv (Ev.now _) (if_pos g).symm) (fun g => Ev.eqv (Ev.now _) (if_neg g).symm)
        · refine adv_pos b0 b1 l c t z hl hz7 (fun q hq => ?_) m (fun q hq => ?_) ?_ z.length 0 (-1) (by omega) ?_ (fun q hq => absurd hq (Nat.not_lt_zero _))
          · have : ¬ z[q] < 0 := fun g => h3 ((minOf_neg hz0).2 ⟨z[q], List.getElem_mem hq, g⟩)
            simp only [List.getD, List.getElem?_eq_getElem hq, Option.getD_some]; omega
          · rw [hcnt]
            constructor
            · intro g
              by_cases g' : z.getD q 0 ≤ m
              · exact g'
              · have := cnt_lt hs _ hj (z.getD q 0) (by rw [← hm]; omega)
                omega
            · intro g
              have g1 := cnt_ge hs _ hj
              rw [← hm] at g1
              have g2 : row.countP (fun y => decide (m ≤ y)) ≤ row.countP (fun y => decide (z.getD q 0 ≤ y)) := List.countP_mono_left (fun y _ hy => by simp only [decide_eq_true_eq] at hy ⊢; omega)
              omega
          · have : m ∈ z := hp.mem_iff.1 (by rw [hm]; simp only [List.getD, List.getElem?_eq_getElem hj, Option.getD_some]; exact List.getElem_mem hj)
            obtain ⟨q, hq, e⟩ := List.getElem_of_mem this
            exact ⟨q, hq, by simpa [List.getD, hq] using e⟩
          · have : m ∈ z := hp.mem_iff.1 (by rw [hm]; simp only [List.getD, List.getElem?_eq_getElem hj, Option.getD_some]; exact List.getElem_mem hj)
            have : ¬ m < 0 := fun g => h3 ((minOf_neg hz0).2 ⟨m, this, g⟩)
            omega
  · refine ⟨(0, 0, [], 0, 80), ?_, ?_, by simp⟩
    · unfold entries_Advance.f
      refine Ev.bind (entries_Check_ev b0 b1 l c hl) ?_
      simp only [Bool.eq_false_iff.mpr h1, Bool.false_eq_true, if_false]
      exact Ev.neg (by omega) (Ev.now _)
    · unfold rialtoref08_Advance.f
      refine Ev.bind (ref08_Check_ev b0 b1 l c hl) ?_
      simp only [Bool.eq_false_iff.mpr h1, Bool.false_eq_true, if_false]
      exact Ev.neg (by omega) (Ev.now _)
end
theorem cmp_loop (z : List Int) (hz : z.length < 17592186044416) (d : Nat) : ∀ i : Nat, i + d = z.length → Ev (fun k => rialtolaw08_EntriesAdvance.l0 k z z true (i : Int)) true := by
  induction d with
  | zero =>
    intro i hi
    refine Ev.succ ?_
    simp only [rialtolaw08_EntriesAdvance.l0]
    exact Ev.neg (by omega) (Ev.pos trivial (Ev.bind live8_ev (Ev.now _)))
  | succ d ih =>
    intro i hi
    refine Ev.succ ?_
    simp only [rialtolaw08_EntriesAdvance.l0]
    rw [w64 ((i : Int) + 1) (by omega) (by omega), beq_self_eq_true]
    exact Ev.pos (by omega) (Ev.pos trivial (Ev.pos (by omega) (Ev.pos (by omega) (ih (i + 1) (by omega)))))
theorem EntriesAdvance : rialtolaw08_EntriesAdvance.Pure := by
  intro b0 b1 l c t z hb0 hb1 hl hc ht hz
  have hn : l.length < 4398046511104 := by have := hl.1; omega
  have hzn : z.length < 17592186044416 := by have := hz.1; omega
  obtain ⟨v, h1, h2, h3⟩ := both_ev b0 b1 l c t z hn
  refine Ev.rounds ?_
  unfold rialtolaw08_EntriesAdvance.f
  rw [ref08_Copy_eq b0 b1 l c hn]
  refine Ev.bind (Ev.now _) (Ev.pos (by simp; omega) (Ev.bind (Ev.now _) ?_))
  rw [List.nil_append]
  refine Ev.bind h1 (Ev.bind h2 (Ev.bind (ref08_Same_ev _ _ _ _ h3) (Ev.pos rfl (Ev.pos rfl (Ev.bind (ref08_Same_ev b0 b1 l c hn) (Ev.succ ?_))))))
  simp only [rialtolaw08_EntriesAdvance.j0]
  exact cmp_loop z hzn z.length 0 (by omega)

end Go.Proofs.Ytiebeiloooblpaa.Pure
end
section
/- Helper lemmas of this session: an argument that reads as data, opened to plain values, whatever its type's depth; and what its size says. -/
namespace Go.Proofs.YtiebeiloooblpaaO
open Go.RowKit Go.Proofs.YtiebeiloooblpaaW.PrintWords Go.Deep

/-- What a bound on a reading says of its slices' lengths (S) and its strings' (T), at every depth. -/
structure Sizes (P : Program) (Bd : (H : Type) → TypeId → DataW H → Prop) (S : TypeId → Nat → Prop) (T : Nat → Prop) : Prop where
  slice : ∀ (H : Type) (t e : TypeId) (es sp : List (DataW H)), P.underlying t = some (.slice e) → Bd H t (.slice es sp) → S e es.length ∧ ∀ d ∈ es, Bd H e d
  zero : ∀ e, S e 0
  string : ∀ (H : Type) (t : TypeId) (bs : List UInt8), Bd H t (.lit (.string bs)) → T bs.length
  struct : ∀ (H : Type) (t : TypeId) (fs : Array Field) (ps : List (DataW H)), P.underlying t = some (.struct fs) → Bd H t (.agg ps) → ∀ (i : Nat) (f : Field) (p : DataW H), fs[i]? = some f → ps[i]? = some p → Bd H f.type p

/-- Values of type t read as d's; G: what is known of them. -/
structure Opens {α : Type} (P : Program) (Bd : (H : Type) → TypeId → DataW H → Prop) (t : TypeId) (d : Kd α) (G : α → Prop) : Prop where
  go : ∀ (H : Type) (enc : TypeId × Value → H) (w : World) (base : Nat) (spare : Nat → Bool) (held : Bool) (fuel : Nat) (cs : List Value) (x : DataW H × List MemPlace),
    DataW.trod enc P w base spare held fuel t cs = some x → Bd H t x.1 → ∃ v, d.K w v cs ∧ G v

theorem add_add' (a : Addr) (i j : Nat) : (a.add i).add j = a.add (i + j) := by
  unfold Addr.add
  by_cases h1 : i = 0 <;> by_cases h2 : j = 0 <;> simp [h1, h2, Nat.add_assoc]
theorem listOf {α : Type} {Q : Nat → α → Prop} : ∀ n, (∀ i, i < n → ∃ v, Q i v) → ∃ xs : List α, xs.length = n ∧ ∀ i p, xs[i]? = some p → Q i p
  | 0, _ => ⟨[], rfl, fun i p h => by simp at h⟩
  | n + 1, h => by
    obtain ⟨xs, hl, hx⟩ := listOf n (fun i hi => h i (by omega))
    obtain ⟨v, hv⟩ := h n (Nat.lt_succ_self n)
    refine ⟨xs ++ [v], by simp [hl], fun i p hp => ?_⟩
    rcases Nat.lt_or_ge i xs.length with hi | hi
    · rw [List.getElem?_append_left hi] at hp
      exact hx i p hp
    · have hlt := (List.getElem?_eq_some_iff.1 hp).1
      rw [List.length_append, List.length_singleton] at hlt
      obtain rfl : i = n := by omega
      rw [List.getElem?_append_right hi] at hp
      simp [hl] at hp
      subst hp
      exact hv

section
variable {P : Program} {Bd : (H : Type) → TypeId → DataW H → Prop} {S : TypeId → Nat → Prop} {T : Nat → Prop}

theorem Opens.int {t : TypeId} {k : IntKind} (ht : P.underlying t = some (.int k)) : Opens P Bd t (Kd.int k) (fun n => (Lit.int k n).wf = true) where
  go H enc w base spare held fuel cs x h hb := by
    obtain ⟨n, rfl, _, hw⟩ := DataW.trod_int ht h
    exact ⟨n, rfl, hw⟩
theorem Opens.string (Z : Sizes P Bd S T) {t : TypeId} (ht : P.underlying t = some .string) : Opens P Bd t Kd.string (fun s => T s.size) where
  go H enc w base spare held fuel cs x h hb := by
    obtain ⟨s, rfl, rfl, _⟩ := DataW.trod_string ht h
    have h1 := Z.string H t _ hb
    rw [Array.length_toList] at h1
    exact ⟨s, rfl, h1⟩
theorem Opens.iso {α β : Type} {d : Kd α} {G : α → Prop} {t : TypeId} (f : β → α) (g : α → β) (hfg : ∀ y, f (g y) = y) (O : Opens P Bd t d G) : Opens P Bd t (Kd.iso d f) (fun x => G (f x)) where
  go H enc w base spare held fuel cs x h hb := by
    obtain ⟨v, hK, hG⟩ := O.go H enc w base spare held fuel cs x h hb
    exact ⟨g v, by show d.K w (f (g v)) cs; rw [hfg]; exact hK, by show G (f (g v)); rw [hfg]; exact hG⟩
theorem Opens.bool {t : TypeId} (ht : P.underlying t = some .bool) : Opens P Bd t Kd.bool (fun _ => True) where
  go H enc w base spare held fuel cs x h hb := by
    cases fuel with
    | zero => simp [DataW.trod] at h
    | succ n =>
      unfold DataW.trod at h
      rw [ht] at h
      split at h <;> first | exact ⟨_, rfl, trivial⟩ | simp_all
theorem Opens.slice (Z : Sizes P Bd S T) {α : Type} {d : Kd α} {G : α → Prop} {t e : TypeId} {S' : Nat → Prop} (hS : ∀ n, S e n → S' n) (ht : P.underlying t = some (.slice e)) (hs : P.cellsOf e = d.sz) (O : Opens P Bd e d G) :
    Opens P Bd t (Kd.slice e d) (fun xs => S' xs.length ∧ ∀ x ∈ xs, G x) where
  go H enc w base spare held fuel cs x h hb := by
    rcases open_slice ht h with ⟨rfl, rfl⟩ | ⟨a, len, cap, m, n, D, Pl, rfl, _, hl, hm, hmm, rfl, hi⟩
    · exact ⟨[], ⟨none, 0, rfl, Nat.le_refl _, Kd.C_nil d w⟩, hS _ (Z.zero e), fun x h => by cases h⟩
    · have hlm : len ≤ m := by rw [hmm]; split <;> omega
      obtain ⟨h1, h2⟩ := Z.slice H t e _ _ ht hb
      rw [List.length_map, List.length_range] at h1
      replace h1 := hS _ h1
      have hel : ∀ i, i < len → ∃ v cs', d.K w v cs' ∧ G v ∧ (∀ j u, cs'[j]? = some u → w.cell? (a.add (i * d.sz + j)) = some u) := by
        intro i hil
        obtain ⟨cs', hc, htr⟩ := hi i (by omega)
        rw [hs] at hc
        obtain ⟨_, hcl, hat⟩ := World.cells?_some hc
        obtain ⟨v, hK, hG⟩ := O.go H enc w base spare held n cs' _ htr (h2 _ (List.mem_map.2 ⟨i, List.mem_range.2 hil, rfl⟩))
        refine ⟨v, cs', hK, hG, fun j u hu => ?_⟩
        have hj : j < d.sz := by rw [← hcl]; exact (List.getElem?_eq_some_iff.1 hu).1
        rw [← add_add', hat j hj, hu]
      obtain ⟨xs, hxl, hx⟩ := listOf len hel
      refine ⟨xs, ⟨some a, cap, by rw [hxl], by rw [hxl]; exact hl, ⟨rfl, by rw [hxl]; simp only [maxLen] at hm; omega, fun hp => ⟨a, rfl, fun j p hj => ?_⟩⟩⟩, by rw [hxl]; exact h1, fun x hxm => ?_⟩
      · obtain ⟨cs', hK, _, hc⟩ := hx j p hj
        exact ⟨cs', d.K_len hK, hK, hc⟩
      · obtain ⟨i, hi⟩ := List.mem_iff_getElem?.1 hxm
        obtain ⟨_, _, hG, _⟩ := hx i x hi
        exact hG

/-- The fields of a struct, from one on. -/
structure OpensFs {α : Type} (P : Program) (Bd : (H : Type) → TypeId → DataW H → Prop) (fs : List Field) (off : Nat) (d : Kd α) (G : α → Prop) : Prop where
  go : ∀ (H : Type) (enc : TypeId × Value → H) (w : World) (base : Nat) (spare : Nat → Bool) (held : Bool) (n : Nat) (cs : List Value) (xs : List (DataW H × List MemPlace)),
    xs.length = fs.length → (∀ (i : Nat) (f : Field), fs[i]? = some f → DataW.trod enc P w base spare held n f.type ((cs.drop f.offset).take (P.cellsOf f.type)) = xs[i]?) → cs.length = off + d.sz →
    (∀ (i : Nat) (f : Field) (p : DataW H × List MemPlace), fs[i]? = some f → xs[i]? = some p → Bd H f.type p.1) → ∃ v, d.K w v (cs.drop off) ∧ G v
theorem OpensFs.one {α : Type} {d : Kd α} {G : α → Prop} {f : Field} {off : Nat} (ho : f.offset = off) (hs : P.cellsOf f.type = d.sz) (O : Opens P Bd f.type d G) : OpensFs P Bd [f] off d G where
  go H enc w base spare held n cs xs hl ht hc hb := by
    obtain ⟨x, rfl⟩ : ∃ x, xs = [x] := List.length_eq_one_iff.1 hl
    have h1 := ht 0 f rfl
    have h2 := hb 0 f x rfl rfl
    rw [ho, hs, List.take_of_length_le (by rw [List.length_drop]; omega)] at h1
    exact O.go H enc w base spare held n _ x (by simpa using h1) h2
theorem OpensFs.cons {α β : Type} {a : Kd α} {b : Kd β} {G : α → Prop} {G' : β → Prop} {f : Field} {fs : List Field} {off : Nat} (ho : f.offset = off) (hs : P.cellsOf f.type = a.sz) (O : Opens P Bd f.type a G)
    (O' : OpensFs P Bd fs (off + a.sz) b G') : OpensFs P Bd (f :: fs) off (Kd.pair a b) (fun v => G v.1 ∧ G' v.2) where
  go H enc w base spare held n cs xs hl ht hc hb := by
    obtain ⟨x, xs, rfl⟩ : ∃ x r, xs = x :: r := by
      cases xs with
      | nil => simp at hl
      | cons x r => exact ⟨x, r, rfl⟩
    have h1 := ht 0 f rfl
    have h2 := hb 0 f x rfl rfl
    rw [ho, hs] at h1
    have hsz : (Kd.pair a b).sz = a.sz + b.sz := rfl
    obtain ⟨v, hv, hg⟩ := O.go H enc w base spare held n _ x (by simpa using h1) h2
    obtain ⟨u, hu, hg'⟩ := O'.go H enc w base spare held n cs xs (by simpa using hl) (fun i f' hf => by simpa using ht (i + 1) f' (by simpa using hf)) (by rw [hc, hsz]; omega) (fun i f' p hf hp => hb (i + 1) f' p (by simpa using hf) (by simpa using hp))
    refine ⟨(v, u), ⟨_, _, ?_, hv, hu⟩, hg, hg'⟩
    rw [← List.drop_drop, List.take_append_drop]
theorem Opens.struct (Z : Sizes P Bd S T) {α : Type} {d : Kd α} {G : α → Prop} {t : TypeId} {fs : Array Field} (ht : P.underlying t = some (.struct fs)) (hs : P.cellsOf t = d.sz) (O : OpensFs P Bd fs.toList 0 d G) : Opens P Bd t d G where
  go H enc w base spare held fuel cs x h hb := by
    obtain ⟨xs, n, _, rfl, hlen, hxl, hf⟩ := DataW.trod_struct ht h
    have h1 := O.go H enc w base spare held n cs xs (by simpa using hxl) (fun i f hi => hf i f (by simpa using hi)) (by rw [hlen, hs]; omega) (fun i f p hi hp => Z.struct H t fs _ ht hb i f p.1 (by simpa using hi) (by rw [List.getElem?_map, hp]; rfl))
    simpa using h1

end

/-- By the form's own reach. -/
def BdReach (P : Program) (H : Type) (t : TypeId) (d : DataW H) : Prop := ∀ n ∈ d.weights P t, n ≤ reachBytes
theorem weightsAll_mem {H : Type} {P : Program} {e : TypeId} {l : List (DataW H)} {d : DataW H} (h : d ∈ l) : ∀ n ∈ d.weights P e, n ∈ DataW.weightsAll P e l := by
  induction l with
  | nil => cases h
  | cons y r ih =>
    intro n hn
    rw [DataW.weightsAll]
    rcases List.mem_cons.1 h with rfl | h
    · exact List.mem_append_left _ hn
    · exact List.mem_append_right _ (ih h n hn)
theorem weightsEach_mem {H : Type} {P : Program} : ∀ {ts : List TypeId} {l : List (DataW H)} {i : Nat} {t : TypeId} {d : DataW H}, ts[i]? = some t → l[i]? = some d → ∀ n ∈ d.weights P t, n ∈ DataW.weightsEach P ts l
  | [], _, _, _, _, h, _, _, _ => by simp at h
  | _ :: _, [], _, _, _, _, h, _, _ => by simp at h
  | t0 :: ts, d0 :: l, 0, t, d, h, h', n, hn => by
    simp at h h'
    subst h
    subst h'
    rw [DataW.weightsEach]
    exact List.mem_append_left _ hn
  | t0 :: ts, d0 :: l, i + 1, t, d, h, h', n, hn => by
    rw [DataW.weightsEach]
    exact List.mem_append_right _ (weightsEach_mem (i := i) (by simpa using h) (by simpa using h') n hn)
theorem sizesReach (P : Program) : Sizes P (BdReach P) (fun e n => n * P.bytesOf e ≤ reachBytes) (fun n => n ≤ reachBytes) where
  slice H t e es sp ht h := by
    unfold BdReach at h
    rw [DataW.weights, ht] at h
    refine ⟨?_, fun d hd n hn => h n (List.mem_cons_of_mem _ (List.mem_append_left _ (weightsAll_mem hd n hn)))⟩
    have h1 := h _ List.mem_cons_self
    exact Nat.le_trans (Nat.mul_le_mul_right _ (Nat.le_add_right _ _)) h1
  zero e := by simp
  string H t bs h := h _ (by simp [DataW.weights])
  struct H t fs ps ht h i f p hf hp := by
    unfold BdReach at h
    rw [DataW.weights, ht] at h
    intro n hn
    exact h n (weightsEach_mem (i := i) (by rw [List.getElem?_map]; simp [hf]) hp n hn)

theorem reach_arg {H : Type} {P : Program} {ts : List TypeId} {l : List (DataW H)} (hk : (DataW.weightsEach P ts l).all (· ≤ reachBytes) = true) {i : Nat} {t : TypeId} {d : DataW H} (ht : ts[i]? = some t) (hd : l[i]? = some d) : BdReach P H t d := by
  intro n hn
  have h := List.all_eq_true.1 hk n (weightsEach_mem ht hd n hn)
  exact of_decide_eq_true h
end Go.Proofs.YtiebeiloooblpaaO
end
