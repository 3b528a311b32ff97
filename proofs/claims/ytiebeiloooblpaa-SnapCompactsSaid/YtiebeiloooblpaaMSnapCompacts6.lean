/- Part 6 of the proof of SnapCompacts: the texts that it needs, put together by a program of this session. -/
import Derived.ChangeArms
import Derived.Deep.Slices
import Derived.ProofKit
import Derived.RowKit
import Derived.Test.YtiebeiloooblpaaRows
import Derived.Test.YtiebeiloooblpaaMSnapCompacts5
section
-- written by myprint.py, a program of this session over the kit's print.py
namespace Go.Proofs.Ytiebeiloooblpaa.E
open Go.RowKit Go.Proofs.YtiebeiloooblpaaW.PrintWords Go.Proofs.YtiebeiloooblpaaW.PrintLast Go.Proofs.YtiebeiloooblpaaW.PrintMore
attribute [local go_sem] max2_int min2_int max_two min_two max_three min_three max_four min_four   -- for this text's walks alone
set_option linter.unusedVariables false
set_option linter.unusedSimpArgs false

/-! ### rialtolaw09_SnapCompacts: function 3 -/
mutual
def rialtolaw09_SnapCompacts.j0 : Nat → Bool → Int → Int → List (S33) → Int → Int → Int → List (S33) → Int → Int → Int → List (S33) → Int → Option (Bool)
  | 0, _, _, _, _, _, _, _, _, _, _, _, _, _ => none
  | k + 1, x39, x188000, x188001, x188002, x188003, x195000, x195001, x195002, x195003, x203000, x203001, x203002, x203003 => if x39 = true then (some false) else (rialtolaw09_SnapCompacts.l0 k 0 x188000 x188001 x188002 x188003 x195000 x195001 x195002 x195003 x203000 x203001 x203002 x203003)
def rialtolaw09_SnapCompacts.l0 : Nat → Int → Int → Int → List (S33) → Int → Int → Int → List (S33) → Int → Int → Int → List (S33) → Int → Option (Bool)
  | 0, _, _, _, _, _, _, _, _, _, _, _, _, _ => none
  | k + 1, x10, x188000, x188001, x188002, x188003, x195000, x195001, x195002, x195003, x203000, x203001, x203002, x203003 => if x10 < (x203002.length : Int) then (if 0 ≤ x10 then (rialtolaw09_SnapCompacts.l0 k (wrap64 (x10 + 1)) x188000 x188001 x188002 x188003 x195000 x195001 x195002 x195003 x203000 x203001 (x203002.set (x10 : Int).toNat (⟨(rd_T33 x203002 x10).f0, (rd_T33 x203002 x10).f1, (⟨#[119, 114, 105, 116, 116, 101, 110]⟩ : ByteArray)⟩ : S33)) x203003) else (none)) else ((rialtoref08_Same.f k x195000 x195001 x195002 x195003 x188000 x188001 x188002 x188003).bind fun t214 => (if t214 = true then ((rialtolaw09_live.f k).bind fun t215 => (some t215)) else (some false)))
end
def rialtolaw09_SnapCompacts.f (k : Nat) (a0_0 : Int) (a0_1 : Int) (l0_2 : List (S33)) (a0_3 : Int) (a1 : Int) : Option (Bool) := (rialtoref08_Copy.f a0_0 a0_1 l0_2 a0_3).bind fun bt188 => ((snap_Compact.f k bt188.1 bt188.2.1 bt188.2.2.1 bt188.2.2.2 a1).bind fun bt195 => ((rialtoref09_Compact.f k a0_0 a0_1 l0_2 a0_3 a1).bind fun bt203 => ((rialtoref08_Same.f k bt195.1 bt195.2.1 bt195.2.2.1 bt195.2.2.2.1 bt203.1 bt203.2.1 bt203.2.2.1 bt203.2.2.2.1).bind fun t211 => (if t211 = true then (if bt195.2.2.2.2 = bt203.2.2.2.2 then ((rialtoref08_Same.f k bt188.1 bt188.2.1 bt188.2.2.1 bt188.2.2.2 a0_0 a0_1 l0_2 a0_3).bind fun t212 => (rialtolaw09_SnapCompacts.j0 k (!t212) a0_0 a0_1 l0_2 a0_3 bt188.1 bt188.2.1 bt188.2.2.1 bt188.2.2.2 bt195.1 bt195.2.1 bt195.2.2.1 bt195.2.2.2.1)) else (rialtolaw09_SnapCompacts.j0 k true a0_0 a0_1 l0_2 a0_3 bt188.1 bt188.2.1 bt188.2.2.1 bt188.2.2.2 bt195.1 bt195.2.1 bt195.2.2.1 bt195.2.2.2.1)) else (rialtolaw09_SnapCompacts.j0 k true a0_0 a0_1 l0_2 a0_3 bt188.1 bt188.2.1 bt188.2.2.1 bt188.2.2.2 bt195.1 bt195.2.1 bt195.2.2.1 bt195.2.2.2.1)))))
set_option maxHeartbeats 8000000 in
set_option maxRecDepth 100000 in
theorem rialtolaw09_SnapCompacts.calls (k : Nat) (a0_0 : Int) (a0_1 : Int) (A0_2 : Option Addr) (c0_2 : Nat) (l0_2 : List (S33)) (a0_3 : Int) (a1 : Int) (r : Bool) (w : World) (hr0_2 : Kd.C k33 w A0_2 l0_2.length l0_2) (hc0_2 : l0_2.length ≤ c0_2) (h : rialtolaw09_SnapCompacts.f k a0_0 a0_1 l0_2 a0_3 a1 = some r) :
    Calls Try.prog 3 #[.agg #[.int .i64 a0_0, .int .i64 a0_1, .slice A0_2 l0_2.length c0_2, .int .i64 a0_3], .int .i64 a1] w fun e w' => e = .returned (.bool r) ∧ Below w.heap.size w w' := by
  have hu26 := Try.underlying26
  have HR0_2 := Aside0.mk hr0_2
  have HC0_2 := Aside0.mk hc0_2
  clear hr0_2 hc0_2
  have HB := Aside0.mk (Below.refl w.heap.size w)
  have H : ((rialtoref08_Copy.f a0_0 a0_1 l0_2 a0_3).bind fun bt188 => ((snap_Compact.f k bt188.1 bt188.2.1 bt188.2.2.1 bt188.2.2.2 a1).bind fun bt195 => ((rialtoref09_Compact.f k a0_0 a0_1 l0_2 a0_3 a1).bind fun bt203 => ((rialtoref08_Same.f k bt195.1 bt195.2.1 bt195.2.2.1 bt195.2.2.2.1 bt203.1 bt203.2.1 bt203.2.2.1 bt203.2.2.2.1).bind fun t211 => (if t211 = true then (if bt195.2.2.2.2 = bt203.2.2.2.2 then ((rialtoref08_Same.f k bt188.1 bt188.2.1 bt188.2.2.1 bt188.2.2.2 a0_0 a0_1 l0_2 a0_3).bind fun t212 => (rialtolaw09_SnapCompacts.j0 k (!t212) a0_0 a0_1 l0_2 a0_3 bt188.1 bt188.2.1 bt188.2.2.1 bt188.2.2.2 bt195.1 bt195.2.1 bt195.2.2.1 bt195.2.2.2.1)) else (rialtolaw09_SnapCompacts.j0 k true a0_0 a0_1 l0_2 a0_3 bt188.1 bt188.2.1 bt188.2.2.1 bt188.2.2.2 bt195.1 bt195.2.1 bt195.2.2.1 bt195.2.2.2.1)) else (rialtolaw09_SnapCompacts.j0 k true a0_0 a0_1 l0_2 a0_3 bt188.1 bt188.2.1 bt188.2.2.1 bt188.2.2.2 bt195.1 bt195.2.1 bt195.2.2.1 bt195.2.2.2.1)))))) = some r := h
  clear h
  replace H := Option.bind_eq_some_iff.mp H
  obtain ⟨⟨t188, t189, t190, t193⟩, A30, H⟩ := H
  replace H : ((snap_Compact.f k t188 t189 t190 t193 a1).bind fun bt195 => ((rialtoref09_Compact.f k a0_0 a0_1 l0_2 a0_3 a1).bind fun bt203 => ((rialtoref08_Same.f k bt195.1 bt195.2.1 bt195.2.2.1 bt195.2.2.2.1 bt203.1 bt203.2.1 bt203.2.2.1 bt203.2.2.2.1).bind fun t211 => (if t211 = true then (if bt195.2.2.2.2 = bt203.2.2.2.2 then ((rialtoref08_Same.f k t188 t189 t190 t193 a0_0 a0_1 l0_2 a0_3).bind fun t212 => (rialtolaw09_SnapCompacts.j0 k (!t212) a0_0 a0_1 l0_2 a0_3 t188 t189 t190 t193 bt195.1 bt195.2.1 bt195.2.2.1 bt195.2.2.2.1)) else (rialtolaw09_SnapCompacts.j0 k true a0_0 a0_1 l0_2 a0_3 t188 t189 t190 t193 bt195.1 bt195.2.1 bt195.2.2.1 bt195.2.2.2.1)) else (rialtolaw09_SnapCompacts.j0 k true a0_0 a0_1 l0_2 a0_3 t188 t189 t190 t193 bt195.1 bt195.2.1 bt195.2.2.1 bt195.2.2.2.1))))) = some r := H
  have A3 := Aside0.mk A30
  clear A30
  replace H := Option.bind_eq_some_iff.mp H
  obtain ⟨⟨t195, t196, t197, t200, t201⟩, A40, H⟩ := H
  replace H : ((rialtoref09_Compact.f k a0_0 a0_1 l0_2 a0_3 a1).bind fun bt203 => ((rialtoref08_Same.f k t195 t196 t197 t200 bt203.1 bt203.2.1 bt203.2.2.1 bt203.2.2.2.1).bind fun t211 => (if t211 = true then (if t201 = bt203.2.2.2.2 then ((rialtoref08_Same.f k t188 t189 t190 t193 a0_0 a0_1 l0_2 a0_3).bind fun t212 => (rialtolaw09_SnapCompacts.j0 k (!t212) a0_0 a0_1 l0_2 a0_3 t188 t189 t190 t193 t195 t196 t197 t200)) else (rialtolaw09_SnapCompacts.j0 k true a0_0 a0_1 l0_2 a0_3 t188 t189 t190 t193 t195 t196 t197 t200)) else (rialtolaw09_SnapCompacts.j0 k true a0_0 a0_1 l0_2 a0_3 t188 t189 t190 t193 t195 t196 t197 t200)))) = some r := H
  have A4 := Aside0.mk A40
  clear A40
  replace H := Option.bind_eq_some_iff.mp H
  obtain ⟨⟨t203, t204, t205, t208, t209⟩, A50, H⟩ := H
  replace H : ((rialtoref08_Same.f k t195 t196 t197 t200 t203 t204 t205 t208).bind fun t211 => (if t211 = true then (if t201 = t209 then ((rialtoref08_Same.f k t188 t189 t190 t193 a0_0 a0_1 l0_2 a0_3).bind fun t212 => (rialtolaw09_SnapCompacts.j0 k (!t212) a0_0 a0_1 l0_2 a0_3 t188 t189 t190 t193 t195 t196 t197 t200)) else (rialtolaw09_SnapCompacts.j0 k true a0_0 a0_1 l0_2 a0_3 t188 t189 t190 t193 t195 t196 t197 t200)) else (rialtolaw09_SnapCompacts.j0 k true a0_0 a0_1 l0_2 a0_3 t188 t189 t190 t193 t195 t196 t197 t200))) = some r := H
  have A5 := Aside0.mk A50
  clear A50
  have HC6 := Aside0.mk H
  clear H
  go_enter Try.func3, Try.ntmps3
  go_upto_region 4 with (first | ((with_reducible refine gate_dst (N := 2) rfl ?_); refine box_event ?hg (N := 2) ?hd (cs := #[.int .i64 a0_0, .int .i64 a0_1, .slice A0_2 l0_2.length c0_2, .int .i64 a0_3]) (t := 26) ?hr ?_; (case hd => rfl); (case hg => rfl); (case hr => first | (go_simp; done) | (go_simp; rfl)); intro gb187 hg w7 hbox hb; have n0_ := Aside0.mk (below_step (by repeat (first | (with_reducible first | exact HB.out | apply below_alloc | apply pw_below_drewN | apply below_drew1) | exact HB.out)) hb); have n1_ := Aside0.mk (hbox); have n2_ := Aside0.mk ((by rw [hg]; exact (below_size (by repeat (first | (with_reducible first | exact HB.out | apply below_alloc | apply pw_below_drewN | apply below_drew1) | exact HB.out))) : w.heap.size ≤ gb187)); have n3_ := Aside0.mk ((by rw [hg]; exact (below_size (by repeat (first | (with_reducible first | exact HB.out | apply below_alloc | apply pw_below_drewN | apply below_drew1) | exact HB.out))) : w.heap.size ≤ gb187)); clear HB; have HB := n0_; have BK187 := n1_; have GW187 := n2_; have GE187 := n3_; clear n0_ n1_ n2_ n3_; clear hb hbox hg; have hcz8_0 : w7.cell? ⟨gb187, 0, none⟩ = some (.int .i64 a0_0) := (blk_cell BK187.out 0).trans rfl; have hcz8_1 : w7.cell? ⟨gb187, 1, none⟩ = some (.int .i64 a0_1) := (blk_cell BK187.out 1).trans rfl; have hcz8_2 : w7.cell? ⟨gb187, 2, none⟩ = some (.slice A0_2 l0_2.length c0_2) := (blk_cell BK187.out 2).trans rfl; have hcz8_3 : w7.cell? ⟨gb187, 3, none⟩ = some (.int .i64 a0_3) := (blk_cell BK187.out 3).trans rfl; have hfz8_0 := blk_frozen BK187.out 0; have hfz8_1 := blk_frozen BK187.out 1; have hfz8_2 := blk_frozen BK187.out 2; have hfz8_3 := blk_frozen BK187.out 3) | ((with_reducible refine gate_callee (f := 13) rfl ?_); refine goesL_ (some 12) rfl rfl Try.func13 (by kernel_rfl) rfl #[.agg #[.int .i64 a0_0, .int .i64 a0_1, .slice A0_2 l0_2.length c0_2, .int .i64 a0_3]] rfl (by (try simp only [List.map_toArray, List.map_cons, List.map_nil]); first | done | rfl | (simp only [List.length_drop, List.length_take]; rfl)) ?_; (with_reducible refine (rialtoref08_Copy.calls a0_0 a0_1 _ _ l0_2 a0_3 t188 t189 t190 t193 _ ?side1 ?side2 A3.out).mono ?_); (case side1 => repeat (first | exact (Kd.C_below HR0_2.out HB.out) | (with_reducible refine Kd.C_alloc ?_ _) | (with_reducible refine Kd.C_drewN ?_ _) | (with_reducible refine Kd.C_drew ?_))); (case side2 => exact HC0_2.out); rintro e w9 ⟨v191, rfl, ho0, hb⟩; refine ⟨_, rfl, ?_⟩; have n0_ := Aside0.mk (Kd.R_lower ho0 (below_size (by repeat (first | (with_reducible first | exact HB.out | apply below_alloc | apply pw_below_drewN | apply below_drew1 | refine below_set ?_ GE187.out) | exact HB.out)))); have n1_ := Aside0.mk (blk_below (g := gb187) (o := .cells #[.int .i64 a0_0, .int .i64 a0_1, .slice A0_2 l0_2.length c0_2, .int .i64 a0_3] 26 (0, 0)) (by (with_reducible repeat (first | refine blk_drewN ?_ _ | refine blk_drew ?_ | refine blk_alloc ?_ _)); exact BK187.out) hb); have n2_ := Aside0.mk (below_step (by repeat (first | (with_reducible first | exact HB.out | apply below_alloc | apply pw_below_drewN | apply below_drew1 | refine below_set ?_ GE187.out) | exact HB.out)) hb); clear BK187; clear HB; have HO192 := n0_; have BK187 := n1_; have HB := n2_; clear n0_ n1_ n2_; (try clear hb); (try clear hb2); (try clear hk); (try clear hi); (try clear ho0)) | ((with_reducible refine gate_dst (N := 5) rfl ?_); refine box_event ?hg (N := 5) ?hd (cs := #[.int .i64 0, .int .i64 0, .slice none 0 0, .int .i64 0]) (t := 26) ?hr ?_; (case hd => rfl); (case hg => rfl); (case hr => first | (go_simp; done) | (go_simp; rfl)); intro gb194 hg w10 hbox hb; have n0_ := Aside0.mk (Kd.R_below (by (with_reducible repeat (first | apply Kd.R_alloc | apply Kd.R_drewN | apply Kd.R_drew)); exact HO192.out) hb); have n1_ := Aside0.mk (blk_below (g := gb187) (o := .cells #[.int .i64 a0_0, .int .i64 a0_1, .slice A0_2 l0_2.length c0_2, .int .i64 a0_3] 26 (0, 0)) (by (with_reducible repeat (first | refine blk_drewN ?_ _ | refine blk_drew ?_ | refine blk_alloc ?_ _)); exact BK187.out) hb); have n2_ := Aside0.mk (below_step (by repeat (first | (with_reducible first | exact HB.out | apply below_alloc | apply pw_below_drewN | apply below_drew1 | refine below_set ?_ GE187.out) | exact HB.out)) hb); have n3_ := Aside0.mk (hbox); have n4_ := Aside0.mk ((by rw [hg]; exact (below_size (by repeat (first | (with_reducible first | exact HB.out | apply below_alloc | apply pw_below_drewN | apply below_drew1 | refine below_set ?_ GE187.out) | exact HB.out))) : w.heap.size ≤ gb194)); have n5_ := Aside0.mk ((by rw [hg]; exact (below_size (by repeat (first | (with_reducible first | exact HB.out | apply below_alloc | apply pw_below_drewN | apply below_drew1 | refine below_set ?_ GE187.out) | exact HB.out))) : w.heap.size ≤ gb194)); have n6_ := Aside0.mk ((by rw [hg]; exact Nat.ne_of_lt (blk_lt (g := gb187) (o := .cells #[.int .i64 a0_0, .int .i64 a0_1, .slice A0_2 l0_2.length c0_2, .int .i64 a0_3] 26 (0, 0)) (by (with_reducible repeat (first | refine blk_drewN ?_ _ | refine blk_drew ?_ | refine blk_alloc ?_ _)); exact BK187.out)) : gb187 ≠ gb194)); have n7_ := Aside0.mk ((by rw [hg]; exact Nat.ne_of_gt (blk_lt (g := gb187) (o := .cells #[.int .i64 a0_0, .int .i64 a0_1, .slice A0_2 l0_2.length c0_2, .int .i64 a0_3] 26 (0, 0)) (by (with_reducible repeat (first | refine blk_drewN ?_ _ | refine blk_drew ?_ | refine blk_alloc ?_ _)); exact BK187.out)) : gb194 ≠ gb187)); clear HO192; clear BK187; clear HB; have HO192 := n0_; have BK187 := n1_; have HB := n2_; have BK194 := n3_; have GW194 := n4_; have GE194 := n5_; have NB187_194 := n6_; have NB194_187 := n7_; clear n0_ n1_ n2_ n3_ n4_ n5_ n6_ n7_; clear hb hbox hg; have hnb11 := NB194_187.out; have hnc11 := NB187_194.out; have hcz12_0 : w10.cell? ⟨gb194, 0, none⟩ = some (.int .i64 0) := (blk_cell BK194.out 0).trans rfl; have hcz12_1 : w10.cell? ⟨gb194, 1, none⟩ = some (.int .i64 0) := (blk_cell BK194.out 1).trans rfl; have hcz12_2 : w10.cell? ⟨gb194, 2, none⟩ = some (.slice none 0 0) := (blk_cell BK194.out 2).trans rfl; have hcz12_3 : w10.cell? ⟨gb194, 3, none⟩ = some (.int .i64 0) := (blk_cell BK194.out 3).trans rfl; have hfz12_0 := blk_frozen BK194.out 0; have hfz12_1 := blk_frozen BK194.out 1; have hfz12_2 := blk_frozen BK194.out 2; have hfz12_3 := blk_frozen BK194.out 3; obtain ⟨Ao13, co13, eo13⟩ := Kd.R_slice HO192.out; subst eo13) | ((with_reducible refine gate_callee (f := 14) rfl ?_); refine goesL_ (some 16) rfl rfl Try.func14 (by kernel_rfl) rfl #[.agg #[.int .i64 t188, .int .i64 t189, .slice Ao13 t190.length co13, .int .i64 t193], .int .i64 a1] rfl (by (try simp only [List.map_toArray, List.map_cons, List.map_nil]); first | done | rfl | (simp only [List.length_drop, List.length_take]; rfl)) ?_; (with_reducible refine (snap_Compact.calls k t188 t189 _ _ t190 t193 a1 t195 t196 t197 t200 t201 _ ?side1 ?side2 A4.out).mono ?_); (case side1 => refine (Kd.R_reads' (e := 33) (base := w.heap.size) (ok := fun k_ => True) (n := t190.length) (c := co13) ?_).2.2; exact (by (with_reducible repeat (first | apply Kd.R_alloc | apply Kd.R_drewN | apply Kd.R_drew)); exact (Kd.R_mono (Kd.R_far (p := ⟨gb194, 3, none⟩) (Kd.R_far (p := ⟨gb194, 2, none⟩) (Kd.R_far (p := ⟨gb194, 1, none⟩) (Kd.R_far (p := ⟨gb194, 0, none⟩) (Kd.R_types HO192.out BK194.out (by decide)) (fun _ hk => hk.2) (.int .i64 t188)) (fun _ hk => hk.2) (.int .i64 t189)) (fun _ hk => hk.2) (.slice Ao13 t190.length co13)) (fun _ hk => hk.2) (.int .i64 t193)) (fun _ h_ => h_.1)))); (case side2 => exact (Kd.R_reads' HO192.out).2.1); rintro e w14 ⟨v198, rfl, ho0, hb⟩; refine ⟨_, rfl, ?_⟩; have n0_ := Aside0.mk (Kd.R_elder' (by (with_reducible repeat (first | apply Kd.R_alloc | apply Kd.R_drewN | apply Kd.R_drew)); exact (Kd.R_mono (Kd.R_far (p := ⟨gb194, 3, none⟩) (Kd.R_far (p := ⟨gb194, 2, none⟩) (Kd.R_far (p := ⟨gb194, 1, none⟩) (Kd.R_far (p := ⟨gb194, 0, none⟩) (Kd.R_types HO192.out BK194.out (by decide)) (fun _ hk => hk.2) (.int .i64 t188)) (fun _ hk => hk.2) (.int .i64 t189)) (fun _ hk => hk.2) (.slice Ao13 t190.length co13)) (fun _ hk => hk.2) (.int .i64 t193)) (fun _ h_ => h_.1))) (Kd.R_base ho0) hb); have n1_ := Aside0.mk (Kd.R_lower (Kd.R_new' ho0 (Kd.R_lt (by (with_reducible repeat (first | apply Kd.R_alloc | apply Kd.R_drewN | apply Kd.R_drew)); exact (Kd.R_mono (Kd.R_far (p := ⟨gb194, 3, none⟩) (Kd.R_far (p := ⟨gb194, 2, none⟩) (Kd.R_far (p := ⟨gb194, 1, none⟩) (Kd.R_far (p := ⟨gb194, 0, none⟩) (Kd.R_types HO192.out BK194.out (by decide)) (fun _ hk => hk.2) (.int .i64 t188)) (fun _ hk => hk.2) (.int .i64 t189)) (fun _ hk => hk.2) (.slice Ao13 t190.length co13)) (fun _ hk => hk.2) (.int .i64 t193)) (fun _ h_ => h_.1))))) (below_size (by repeat (first | (with_reducible first | exact HB.out | apply below_alloc | apply pw_below_drewN | apply below_drew1 | refine below_set ?_ GE187.out | refine below_set ?_ GE194.out) | exact HB.out)))); have n2_ := Aside0.mk (blk_below (g := gb187) (o := .cells #[.int .i64 a0_0, .int .i64 a0_1, .slice A0_2 l0_2.length c0_2, .int .i64 a0_3] 26 (0, 0)) (by (with_reducible repeat (first | refine blk_drewN ?_ _ | refine blk_drew ?_ | refine blk_alloc ?_ _)); refine blk_far ?_ NB187_194.out _; (with_reducible repeat (first | refine blk_drewN ?_ _ | refine blk_drew ?_ | refine blk_alloc ?_ _)); refine blk_far ?_ NB187_194.out _; (with_reducible repeat (first | refine blk_drewN ?_ _ | refine blk_drew ?_ | refine blk_alloc ?_ _)); refine blk_far ?_ NB187_194.out _; (with_reducible repeat (first | refine blk_drewN ?_ _ | refine blk_drew ?_ | refine blk_alloc ?_ _)); refine blk_far ?_ NB187_194.out _; (with_reducible repeat (first | refine blk_drewN ?_ _ | refine blk_drew ?_ | refine blk_alloc ?_ _)); exact BK187.out) hb); have n3_ := Aside0.mk (blk_below (g := gb194) (o := .cells #[.int .i64 t188, .int .i64 t189, .slice Ao13 t190.length co13, .int .i64 t193] 26 (0, 0)) (by (with_reducible repeat (first | refine blk_drewN ?_ _ | refine blk_drew ?_ | refine blk_alloc ?_ _)); refine blk_put (cs := #[.int .i64 t188, .int .i64 t189, .slice Ao13 t190.length co13, .int .i64 0]) ?_ 3 _ rfl; (with_reducible repeat (first | refine blk_drewN ?_ _ | refine blk_drew ?_ | refine blk_alloc ?_ _)); refine blk_put (cs := #[.int .i64 t188, .int .i64 t189, .slice none 0 0, .int .i64 0]) ?_ 2 _ rfl; (with_reducible repeat (first | refine blk_drewN ?_ _ | refine blk_drew ?_ | refine blk_alloc ?_ _)); refine blk_put (cs := #[.int .i64 t188, .int .i64 0, .slice none 0 0, .int .i64 0]) ?_ 1 _ rfl; (with_reducible repeat (first | refine blk_drewN ?_ _ | refine blk_drew ?_ | refine blk_alloc ?_ _)); refine blk_put (cs := #[.int .i64 0, .int .i64 0, .slice none 0 0, .int .i64 0]) ?_ 0 _ rfl; (with_reducible repeat (first | refine blk_drewN ?_ _ | refine blk_drew ?_ | refine blk_alloc ?_ _)); exact BK194.out) hb); have n4_ := Aside0.mk (below_step (by repeat (first | (with_reducible first | exact HB.out | apply below_alloc | apply pw_below_drewN | apply below_drew1 | refine below_set ?_ GE187.out | refine below_set ?_ GE194.out) | exact HB.out)) hb); clear HO192; clear BK187; clear BK194; clear HB; have HO192 := n0_; have HO199 := n1_; have BK187 := n2_; have BK194 := n3_; have HB := n4_; clear n0_ n1_ n2_ n3_ n4_; (try clear hb); (try clear hb2); (try clear hk); (try clear hi); (try clear ho0)) | ((with_reducible refine gate_dst (N := 6) rfl ?_); refine box_event ?hg (N := 6) ?hd (cs := #[.int .i64 0, .int .i64 0, .slice none 0 0, .int .i64 0]) (t := 26) ?hr ?_; (case hd => rfl); (case hg => rfl); (case hr => first | (go_simp; done) | (go_simp; rfl)); intro gb202 hg w15 hbox hb; have n0_ := Aside0.mk (Kd.R_below (by (with_reducible repeat (first | apply Kd.R_alloc | apply Kd.R_drewN | apply Kd.R_drew)); exact HO192.out) hb); have n1_ := Aside0.mk (Kd.R_below (by (with_reducible repeat (first | apply Kd.R_alloc | apply Kd.R_drewN | apply Kd.R_drew)); exact HO199.out) hb); have n2_ := Aside0.mk (blk_below (g := gb187) (o := .cells #[.int .i64 a0_0, .int .i64 a0_1, .slice A0_2 l0_2.length c0_2, .int .i64 a0_3] 26 (0, 0)) (by (with_reducible repeat (first | refine blk_drewN ?_ _ | refine blk_drew ?_ | refine blk_alloc ?_ _)); exact BK187.out) hb); have n3_ := Aside0.mk (blk_below (g := gb194) (o := .cells #[.int .i64 t188, .int .i64 t189, .slice Ao13 t190.length co13, .int .i64 t193] 26 (0, 0)) (by (with_reducible repeat (first | refine blk_drewN ?_ _ | refine blk_drew ?_ | refine blk_alloc ?_ _)); exact BK194.out) hb); have n4_ := Aside0.mk (below_step (by repeat (first | (with_reducible first | exact HB.out | apply below_alloc | apply pw_below_drewN | apply below_drew1 | refine below_set ?_ GE187.out | refine below_set ?_ GE194.out) | exact HB.out)) hb); have n5_ := Aside0.mk (hbox); have n6_ := Aside0.mk ((by rw [hg]; exact (below_size (by repeat (first | (with_reducible first | exact HB.out | apply below_alloc | apply pw_below_drewN | apply below_drew1 | refine below_set ?_ GE187.out | refine below_set ?_ GE194.out) | exact HB.out))) : w.heap.size ≤ gb202)); have n7_ := Aside0.mk ((by rw [hg]; exact (below_size (by repeat (first | (with_reducible first | exact HB.out | apply below_alloc | apply pw_below_drewN | apply below_drew1 | refine below_set ?_ GE187.out | refine below_set ?_ GE194.out) | exact HB.out))) : w.heap.size ≤ gb202)); have n8_ := Aside0.mk ((by rw [hg]; exact Nat.ne_of_lt (blk_lt (g := gb187) (o := .cells #[.int .i64 a0_0, .int .i64 a0_1, .slice A0_2 l0_2.length c0_2, .int .i64 a0_3] 26 (0, 0)) (by (with_reducible repeat (first | refine blk_drewN ?_ _ | refine blk_drew ?_ | refine blk_alloc ?_ _)); exact BK187.out)) : gb187 ≠ gb202)); have n9_ := Aside0.mk ((by rw [hg]; exact Nat.ne_of_gt (blk_lt (g := gb187) (o := .cells #[.int .i64 a0_0, .int .i64 a0_1, .slice A0_2 l0_2.length c0_2, .int .i64 a0_3] 26 (0, 0)) (by (with_reducible repeat (first | refine blk_drewN ?_ _ | refine blk_drew ?_ | refine blk_alloc ?_ _)); exact BK187.out)) : gb202 ≠ gb187)); have n10_ := Aside0.mk ((by rw [hg]; exact Nat.ne_of_lt (blk_lt (g := gb194) (o := .cells #[.int .i64 t188, .int .i64 t189, .slice Ao13 t190.length co13, .int .i64 t193] 26 (0, 0)) (by (with_reducible repeat (first | refine blk_drewN ?_ _ | refine blk_drew ?_ | refine blk_alloc ?_ _)); exact BK194.out)) : gb194 ≠ gb202)); have n11_ := Aside0.mk ((by rw [hg]; exact Nat.ne_of_gt (blk_lt (g := gb194) (o := .cells #[.int .i64 t188, .int .i64 t189, .slice Ao13 t190.length co13, .int .i64 t193] 26 (0, 0)) (by (with_reducible repeat (first | refine blk_drewN ?_ _ | refine blk_drew ?_ | refine blk_alloc ?_ _)); exact BK194.out)) : gb202 ≠ gb194)); clear HO192; clear HO199; clear BK187; clear BK194; clear HB; have HO192 := n0_; have HO199 := n1_; have BK187 := n2_; have BK194 := n3_; have HB := n4_; have BK202 := n5_; have GW202 := n6_; have GE202 := n7_; have NB187_202 := n8_; have NB202_187 := n9_; have NB194_202 := n10_; have NB202_194 := n11_; clear n0_ n1_ n2_ n3_ n4_ n5_ n6_ n7_ n8_ n9_ n10_ n11_; clear hb hbox hg; have hnb16 := NB202_187.out; have hnc16 := NB187_202.out; have hnb17 := NB202_194.out; have hnc17 := NB194_202.out; have hcz18_0 : w15.cell? ⟨gb202, 0, none⟩ = some (.int .i64 0) := (blk_cell BK202.out 0).trans rfl; have hcz18_1 : w15.cell? ⟨gb202, 1, none⟩ = some (.int .i64 0) := (blk_cell BK202.out 1).trans rfl; have hcz18_2 : w15.cell? ⟨gb202, 2, none⟩ = some (.slice none 0 0) := (blk_cell BK202.out 2).trans rfl; have hcz18_3 : w15.cell? ⟨gb202, 3, none⟩ = some (.int .i64 0) := (blk_cell BK202.out 3).trans rfl; have hfz18_0 := blk_frozen BK202.out 0; have hfz18_1 := blk_frozen BK202.out 1; have hfz18_2 := blk_frozen BK202.out 2; have hfz18_3 := blk_frozen BK202.out 3; obtain ⟨Ao19, co19, eo19⟩ := Kd.R_slice HO199.out; subst eo19; have hcz20_0 : w15.cell? ⟨gb187, 0, none⟩ = some (.int .i64 a0_0) := (blk_cell BK187.out 0).trans rfl; have hcz20_1 : w15.cell? ⟨gb187, 1, none⟩ = some (.int .i64 a0_1) := (blk_cell BK187.out 1).trans rfl; have hcz20_2 : w15.cell? ⟨gb187, 2, none⟩ = some (.slice A0_2 l0_2.length c0_2) := (blk_cell BK187.out 2).trans rfl; have hcz20_3 : w15.cell? ⟨gb187, 3, none⟩ = some (.int .i64 a0_3) := (blk_cell BK187.out 3).trans rfl; have hfz20_0 := blk_frozen BK187.out 0; have hfz20_1 := blk_frozen BK187.out 1; have hfz20_2 := blk_frozen BK187.out 2; have hfz20_3 := blk_frozen BK187.out 3) | ((with_reducible refine gate_callee (f := 15) rfl ?_); refine goesL_ (some 22) rfl rfl Try.func15 (by kernel_rfl) rfl #[.agg #[.int .i64 a0_0, .int .i64 a0_1, .slice A0_2 l0_2.length c0_2, .int .i64 a0_3], .int .i64 a1] rfl (by (try simp only [List.map_toArray, List.map_cons, List.map_nil]); first | done | rfl | (simp only [List.length_drop, List.length_take]; rfl)) ?_; (with_reducible refine (rialtoref09_Compact.calls k a0_0 a0_1 _ _ l0_2 a0_3 a1 t203 t204 t205 t208 t209 _ ?side1 ?side2 A5.out).mono ?_); (case side1 => exact Kd.C_below HR0_2.out (by repeat (first | (with_reducible first | exact HB.out | apply below_alloc | apply pw_below_drewN | apply below_drew1 | refine below_set ?_ GE187.out | refine below_set ?_ GE194.out | refine below_set ?_ GE202.out) | exact HB.out))); (case side2 => exact HC0_2.out); rintro e w21 ⟨v206, rfl, ho0, hb⟩; refine ⟨_, rfl, ?_⟩; have n0_ := Aside0.mk (Kd.R_elder' (by (with_reducible repeat (first | apply Kd.R_alloc | apply Kd.R_drewN | apply Kd.R_drew)); exact (Kd.R_mono (Kd.R_far (p := ⟨gb202, 3, none⟩) (Kd.R_far (p := ⟨gb202, 2, none⟩) (Kd.R_far (p := ⟨gb202, 1, none⟩) (Kd.R_far (p := ⟨gb202, 0, none⟩) (Kd.R_types HO192.out BK202.out (by decide)) (fun _ hk => hk.2) (.int .i64 t195)) (fun _ hk => hk.2) (.int .i64 t196)) (fun _ hk => hk.2) (.slice Ao19 t197.length co19)) (fun _ hk => hk.2) (.int .i64 t200)) (fun _ h_ => h_.1))) (Kd.R_base ho0) hb); have n1_ := Aside0.mk (Kd.R_elder' (by (with_reducible repeat (first | apply Kd.R_alloc | apply Kd.R_drewN | apply Kd.R_drew)); exact (Kd.R_mono (Kd.R_far (p := ⟨gb202, 3, none⟩) (Kd.R_far (p := ⟨gb202, 2, none⟩) (Kd.R_far (p := ⟨gb202, 1, none⟩) (Kd.R_far (p := ⟨gb202, 0, none⟩) (Kd.R_types HO199.out BK202.out (by decide)) (fun _ hk => hk.2) (.int .i64 t195)) (fun _ hk => hk.2) (.int .i64 t196)) (fun _ hk => hk.2) (.slice Ao19 t197.length co19)) (fun _ hk => hk.2) (.int .i64 t200)) (fun _ h_ => h_.1))) (Kd.R_base ho0) hb); have n2_ := Aside0.mk (Kd.R_lower (Kd.R_new' (Kd.R_new' ho0 (Kd.R_lt (by (with_reducible repeat (first | apply Kd.R_alloc | apply Kd.R_drewN | apply Kd.R_drew)); exact (Kd.R_mono (Kd.R_far (p := ⟨gb202, 3, none⟩) (Kd.R_far (p := ⟨gb202, 2, none⟩) (Kd.R_far (p := ⟨gb202, 1, none⟩) (Kd.R_far (p := ⟨gb202, 0, none⟩) (Kd.R_types HO192.out BK202.out (by decide)) (fun _ hk => hk.2) (.int .i64 t195)) (fun _ hk => hk.2) (.int .i64 t196)) (fun _ hk => hk.2) (.slice Ao19 t197.length co19)) (fun _ hk => hk.2) (.int .i64 t200)) (fun _ h_ => h_.1))))) (Kd.R_lt (by (with_reducible repeat (first | apply Kd.R_alloc | apply Kd.R_drewN | apply Kd.R_drew)); exact (Kd.R_mono (Kd.R_far (p := ⟨gb202, 3, none⟩) (Kd.R_far (p := ⟨gb202, 2, none⟩) (Kd.R_far (p := ⟨gb202, 1, none⟩) (Kd.R_far (p := ⟨gb202, 0, none⟩) (Kd.R_types HO199.out BK202.out (by decide)) (fun _ hk => hk.2) (.int .i64 t195)) (fun _ hk => hk.2) (.int .i64 t196)) (fun _ hk => hk.2) (.slice Ao19 t197.length co19)) (fun _ hk => hk.2) (.int .i64 t200)) (fun _ h_ => h_.1))))) (below_size (by repeat (first | (with_reducible first | exact HB.out | apply below_alloc | apply pw_below_drewN | apply below_drew1 | refine below_set ?_ GE187.out | refine below_set ?_ GE194.out | refine below_set ?_ GE202.out) | exact HB.out)))); have n3_ := Aside0.mk (blk_below (g := gb187) (o := .cells #[.int .i64 a0_0, .int .i64 a0_1, .slice A0_2 l0_2.length c0_2, .int .i64 a0_3] 26 (0, 0)) (by (with_reducible repeat (first | refine blk_drewN ?_ _ | refine blk_drew ?_ | refine blk_alloc ?_ _)); refine blk_far ?_ NB187_202.out _; (with_reducible repeat (first | refine blk_drewN ?_ _ | refine blk_drew ?_ | refine blk_alloc ?_ _)); refine blk_far ?_ NB187_202.out _; (with_reducible repeat (first | refine blk_drewN ?_ _ | refine blk_drew ?_ | refine blk_alloc ?_ _)); refine blk_far ?_ NB187_202.out _; (with_reducible repeat (first | refine blk_drewN ?_ _ | refine blk_drew ?_ | refine blk_alloc ?_ _)); refine blk_far ?_ NB187_202.out _; (with_reducible repeat (first | refine blk_drewN ?_ _ | refine blk_drew ?_ | refine blk_alloc ?_ _)); exact BK187.out) hb); have n4_ := Aside0.mk (blk_below (g := gb194) (o := .cells #[.int .i64 t188, .int .i64 t189, .slice Ao13 t190.length co13, .int .i64 t193] 26 (0, 0)) (by (with_reducible repeat (first | refine blk_drewN ?_ _ | refine blk_drew ?_ | refine blk_alloc ?_ _)); refine blk_far ?_ NB194_202.out _; (with_reducible repeat (first | refine blk_drewN ?_ _ | refine blk_drew ?_ | refine blk_alloc ?_ _)); refine blk_far ?_ NB194_202.out _; (with_reducible repeat (first | refine blk_drewN ?_ _ | refine blk_drew ?_ | refine blk_alloc ?_ _)); refine blk_far ?_ NB194_202.out _; (with_reducible repeat (first | refine blk_drewN ?_ _ | refine blk_drew ?_ | refine blk_alloc ?_ _)); refine blk_far ?_ NB194_202.out _; (with_reducible repeat (first | refine blk_drewN ?_ _ | refine blk_drew ?_ | refine blk_alloc ?_ _)); exact BK194.out) hb); have n5_ := Aside0.mk (blk_below (g := gb202) (o := .cells #[.int .i64 t195, .int .i64 t196, .slice Ao19 t197.length co19, .int .i64 t200] 26 (0, 0)) (by (with_reducible repeat (first | refine blk_drewN ?_ _ | refine blk_drew ?_ | refine blk_alloc ?_ _)); refine blk_put (cs := #[.int .i64 t195, .int .i64 t196, .slice Ao19 t197.length co19, .int .i64 0]) ?_ 3 _ rfl; (with_reducible repeat (first | refine blk_drewN ?_ _ | refine blk_drew ?_ | refine blk_alloc ?_ _)); refine blk_put (cs := #[.int .i64 t195, .int .i64 t196, .slice none 0 0, .int .i64 0]) ?_ 2 _ rfl; (with_reducible repeat (first | refine blk_drewN ?_ _ | refine blk_drew ?_ | refine blk_alloc ?_ _)); refine blk_put (cs := #[.int .i64 t195, .int .i64 0, .slice none 0 0, .int .i64 0]) ?_ 1 _ rfl; (with_reducible repeat (first | refine blk_drewN ?_ _ | refine blk_drew ?_ | refine blk_alloc ?_ _)); refine blk_put (cs := #[.int .i64 0, .int .i64 0, .slice none 0 0, .int .i64 0]) ?_ 0 _ rfl; (with_reducible repeat (first | refine blk_drewN ?_ _ | refine blk_drew ?_ | refine blk_alloc ?_ _)); exact BK202.out) hb); have n6_ := Aside0.mk (below_step (by repeat (first | (with_reducible first | exact HB.out | apply below_alloc | apply pw_below_drewN | apply below_drew1 | refine below_set ?_ GE187.out | refine below_set ?_ GE194.out | refine below_set ?_ GE202.out) | exact HB.out)) hb); clear HO192; clear HO199; clear BK187; clear BK194; clear BK202; clear HB; have HO192 := n0_; have HO199 := n1_; have HO207 := n2_; have BK187 := n3_; have BK194 := n4_; have BK202 := n5_; have HB := n6_; clear n0_ n1_ n2_ n3_ n4_ n5_ n6_; (try clear hb); (try clear hb2); (try clear hk); (try clear hi); (try clear ho0)) | ((with_reducible refine gate_dst (N := 8) rfl ?_); refine box_event ?hg (N := 8) ?hd (cs := #[.int .i64 0, .int .i64 0, .slice none 0 0, .int .i64 0]) (t := 26) ?hr ?_; (case hd => rfl); (case hg => rfl); (case hr => first | (go_simp; done) | (go_simp; rfl)); intro gb210 hg w22 hbox hb; have n0_ := Aside0.mk (Kd.R_below (by (with_reducible repeat (first | apply Kd.R_alloc | apply Kd.R_drewN | apply Kd.R_drew)); exact HO192.out) hb); have n1_ := Aside0.mk (Kd.R_below (by (with_reducible repeat (first | apply Kd.R_alloc | apply Kd.R_drewN | apply Kd.R_drew)); exact HO199.out) hb); have n2_ := Aside0.mk (Kd.R_below (by (with_reducible repeat (first | apply Kd.R_alloc | apply Kd.R_drewN | apply Kd.R_drew)); exact HO207.out) hb); have n3_ := Aside0.mk (blk_below (g := gb187) (o := .cells #[.int .i64 a0_0, .int .i64 a0_1, .slice A0_2 l0_2.length c0_2, .int .i64 a0_3] 26 (0, 0)) (by (with_reducible repeat (first | refine blk_drewN ?_ _ | refine blk_drew ?_ | refine blk_alloc ?_ _)); exact BK187.out) hb); have n4_ := Aside0.mk (blk_below (g := gb194) (o := .cells #[.int .i64 t188, .int .i64 t189, .slice Ao13 t190.length co13, .int .i64 t193] 26 (0, 0)) (by (with_reducible repeat (first | refine blk_drewN ?_ _ | refine blk_drew ?_ | refine blk_alloc ?_ _)); exact BK194.out) hb); have n5_ := Aside0.mk (blk_below (g := gb202) (o := .cells #[.int .i64 t195, .int .i64 t196, .slice Ao19 t197.length co19, .int .i64 t200] 26 (0, 0)) (by (with_reducible repeat (first | refine blk_drewN ?_ _ | refine blk_drew ?_ | refine blk_alloc ?_ _)); exact BK202.out) hb); have n6_ := Aside0.mk (below_step (by repeat (first | (with_reducible first | exact HB.out | apply below_alloc | apply pw_below_drewN | apply below_drew1 | refine below_set ?_ GE187.out | refine below_set ?_ GE194.out | refine below_set ?_ GE202.out) | exact HB.out)) hb); have n7_ := Aside0.mk (hbox); have n8_ := Aside0.mk ((by rw [hg]; exact (below_size (by repeat (first | (with_reducible first | exact HB.out | apply below_alloc | apply pw_below_drewN | apply below_drew1 | refine below_set ?_ GE187.out | refine below_set ?_ GE194.out | refine below_set ?_ GE202.out) | exact HB.out))) : w.heap.size ≤ gb210)); have n9_ := Aside0.mk ((by rw [hg]; exact (below_size (by repeat (first | (with_reducible first | exact HB.out | apply below_alloc | apply pw_below_drewN | apply below_drew1 | refine below_set ?_ GE187.out | refine below_set ?_ GE194.out | refine below_set ?_ GE202.out) | exact HB.out))) : w.heap.size ≤ gb210)); have n10_ := Aside0.mk ((by rw [hg]; exact Nat.ne_of_lt (blk_lt (g := gb187) (o := .cells #[.int .i64 a0_0, .int .i64 a0_1, .slice A0_2 l0_2.length c0_2, .int .i64 a0_3] 26 (0, 0)) (by (with_reducible repeat (first | refine blk_drewN ?_ _ | refine blk_drew ?_ | refine blk_alloc ?_ _)); exact BK187.out)) : gb187 ≠ gb210)); have n11_ := Aside0.mk ((by rw [hg]; exact Nat.ne_of_gt (blk_lt (g := gb187) (o := .cells #[.int .i64 a0_0, .int .i64 a0_1, .slice A0_2 l0_2.length c0_2, .int .i64 a0_3] 26 (0, 0)) (by (with_reducible repeat (first | refine blk_drewN ?_ _ | refine blk_drew ?_ | refine blk_alloc ?_ _)); exact BK187.out)) : gb210 ≠ gb187)); have n12_ := Aside0.mk ((by rw [hg]; exact Nat.ne_of_lt (blk_lt (g := gb194) (o := .cells #[.int .i64 t188, .int .i64 t189, .slice Ao13 t190.length co13, .int .i64 t193] 26 (0, 0)) (by (with_reducible repeat (first | refine blk_drewN ?_ _ | refine blk_drew ?_ | refine blk_alloc ?_ _)); exact BK194.out)) : gb194 ≠ gb210)); have n13_ := Aside0.mk ((by rw [hg]; exact Nat.ne_of_gt (blk_lt (g := gb194) (o := .cells #[.int .i64 t188, .int .i64 t189, .slice Ao13 t190.length co13, .int .i64 t193] 26 (0, 0)) (by (with_reducible repeat (first | refine blk_drewN ?_ _ | refine blk_drew ?_ | refine blk_alloc ?_ _)); exact BK194.out)) : gb210 ≠ gb194)); have n14_ := Aside0.mk ((by rw [hg]; exact Nat.ne_of_lt (blk_lt (g := gb202) (o := .cells #[.int .i64 t195, .int .i64 t196, .slice Ao19 t197.length co19, .int .i64 t200] 26 (0, 0)) (by (with_reducible repeat (first | refine blk_drewN ?_ _ | refine blk_drew ?_ | refine blk_alloc ?_ _)); exact BK202.out)) : gb202 ≠ gb210)); have n15_ := Aside0.mk ((by rw [hg]; exact Nat.ne_of_gt (blk_lt (g := gb202) (o := .cells #[.int .i64 t195, .int .i64 t196, .slice Ao19 t197.length co19, .int .i64 t200] 26 (0, 0)) (by (with_reducible repeat (first | refine blk_drewN ?_ _ | refine blk_drew ?_ | refine blk_alloc ?_ _)); exact BK202.out)) : gb210 ≠ gb202)); clear HO192; clear HO199; clear HO207; clear BK187; clear BK194; clear BK202; clear HB; have HO192 := n0_; have HO199 := n1_; have HO207 := n2_; have BK187 := n3_; have BK194 := n4_; have BK202 := n5_; have HB := n6_; have BK210 := n7_; have GW210 := n8_; have GE210 := n9_; have NB187_210 := n10_; have NB210_187 := n11_; have NB194_210 := n12_; have NB210_194 := n13_; have NB202_210 := n14_; have NB210_202 := n15_; clear n0_ n1_ n2_ n3_ n4_ n5_ n6_ n7_ n8_ n9_ n10_ n11_ n12_ n13_ n14_ n15_; clear hb hbox hg; have hnb23 := NB210_187.out; have hnc23 := NB187_210.out; have hnb24 := NB210_194.out; have hnc24 := NB194_210.out; have hnb25 := NB210_202.out; have hnc25 := NB202_210.out; have hcz26_0 : w22.cell? ⟨gb210, 0, none⟩ = some (.int .i64 0) := (blk_cell BK210.out 0).trans rfl; have hcz26_1 : w22.cell? ⟨gb210, 1, none⟩ = some (.int .i64 0) := (blk_cell BK210.out 1).trans rfl; have hcz26_2 : w22.cell? ⟨gb210, 2, none⟩ = some (.slice none 0 0) := (blk_cell BK210.out 2).trans rfl; have hcz26_3 : w22.cell? ⟨gb210, 3, none⟩ = some (.int .i64 0) := (blk_cell BK210.out 3).trans rfl; have hfz26_0 := blk_frozen BK210.out 0; have hfz26_1 := blk_frozen BK210.out 1; have hfz26_2 := blk_frozen BK210.out 2; have hfz26_3 := blk_frozen BK210.out 3; obtain ⟨Ao27, co27, eo27⟩ := Kd.R_slice HO207.out; subst eo27))
  (try simp only [Act.put, List.setIfInBounds_toArray, List.set_cons_zero, List.set_cons_succ])
  go_cut [39] (fun v39 wc => ∃ (kq : Nat) (x39_5 : Bool), v39 = .bool x39_5 ∧ Aside0 (rialtolaw09_SnapCompacts.j0 kq x39_5 a0_0 a0_1 l0_2 a0_3 t188 t189 t190 t193 t195 t196 t197 t200 = some r) ∧ Aside0 (kq ≤ k) ∧ Aside0 (Kd.R k33 33 wc w.heap.size (fun k_ => some k_ ≠ ((.slice Ao19 t197.length co19) : Value).ownBlock ∧ some k_ ≠ ((.slice Ao27 t205.length co27) : Value).ownBlock) (.slice Ao13 t190.length co13) t190) ∧ Aside0 (Kd.R k33 33 wc w.heap.size (fun k_ => some k_ ≠ ((.slice Ao13 t190.length co13) : Value).ownBlock ∧ some k_ ≠ ((.slice Ao27 t205.length co27) : Value).ownBlock) (.slice Ao19 t197.length co19) t197) ∧ Aside0 (Kd.R k33 33 wc w.heap.size (fun k_ => some k_ ≠ ((.slice Ao13 t190.length co13) : Value).ownBlock ∧ some k_ ≠ ((.slice Ao19 t197.length co19) : Value).ownBlock) (.slice Ao27 t205.length co27) t205) ∧ Aside0 (wc.heap[gb187]? = some (.cells #[.int .i64 a0_0, .int .i64 a0_1, (.slice A0_2 l0_2.length c0_2), .int .i64 a0_3] 26 (0, 0))) ∧ Aside0 (wc.heap[gb194]? = some (.cells #[.int .i64 t188, .int .i64 t189, (.slice Ao13 t190.length co13), .int .i64 t193] 26 (0, 0))) ∧ Aside0 (wc.heap[gb202]? = some (.cells #[.int .i64 t195, .int .i64 t196, (.slice Ao19 t197.length co19), .int .i64 t200] 26 (0, 0))) ∧ Aside0 (wc.heap[gb210]? = some (.cells #[.int .i64 t203, .int .i64 t204, (.slice Ao27 t205.length co27), .int .i64 t208] 26 (0, 0))) ∧ Aside0 (Below w.heap.size w wc))
  case first =>
    have H := HC6.out
    clear HC6
    replace H := Option.bind_eq_some_iff.mp H
    obtain ⟨t211, A280, H⟩ := H
    replace H : (if t211 = true then (if t201 = t209 then ((rialtoref08_Same.f k t188 t189 t190 t193 a0_0 a0_1 l0_2 a0_3).bind fun t212 => (rialtolaw09_SnapCompacts.j0 k (!t212) a0_0 a0_1 l0_2 a0_3 t188 t189 t190 t193 t195 t196 t197 t200)) else (rialtolaw09_SnapCompacts.j0 k true a0_0 a0_1 l0_2 a0_3 t188 t189 t190 t193 t195 t196 t197 t200)) else (rialtolaw09_SnapCompacts.j0 k true a0_0 a0_1 l0_2 a0_3 t188 t189 t190 t193 t195 t196 t197 t200)) = some r := H
    have A28 := Aside0.mk A280
    clear A280
    by_cases c29 : t211 = true
    · subst c29
      have H1 : (if t201 = t209 then ((rialtoref08_Same.f k t188 t189 t190 t193 a0_0 a0_1 l0_2 a0_3).bind fun t212 => (rialtolaw09_SnapCompacts.j0 k (!t212) a0_0 a0_1 l0_2 a0_3 t188 t189 t190 t193 t195 t196 t197 t200)) else (rialtolaw09_SnapCompacts.j0 k true a0_0 a0_1 l0_2 a0_3 t188 t189 t190 t193 t195 t196 t197 t200)) = some r := by rw [if_pos rfl] at H; exact H
      clear H
      have H := H1
      clear H1
      by_cases c30 : t201 = t209
      · rw [if_pos c30] at H
        have c30b0 : (t201 == t209) = true := beq_iff_eq.mpr c30
        have c30b1 : (t201 != t209) = false := bne_eq_false_iff_eq.mpr c30
        clear c30
        (first | rw [c30b0] | (simp only [i64_w, i32_w]; rw [c30b0]) | skip)
        replace H := Option.bind_eq_some_iff.mp H
        obtain ⟨t212, A310, H⟩ := H
        replace H : (rialtolaw09_SnapCompacts.j0 k (!t212) a0_0 a0_1 l0_2 a0_3 t188 t189 t190 t193 t195 t196 t197 t200) = some r := H
        have A31 := Aside0.mk A310
        clear A310
        have H' := Aside0.mk H
        clear H
        have hnb32 := NB202_187.out
        have hnc32 := NB187_202.out
        have hnb33 := NB202_194.out
        have hnc33 := NB194_202.out
        have hnb34 := NB202_210.out
        have hnc34 := NB210_202.out
        have hcz35_0 : w22.cell? ⟨gb202, 0, none⟩ = some (.int .i64 t195) := (blk_cell BK202.out 0).trans rfl
        have hcz35_1 : w22.cell? ⟨gb202, 1, none⟩ = some (.int .i64 t196) := (blk_cell BK202.out 1).trans rfl
        have hcz35_2 : w22.cell? ⟨gb202, 2, none⟩ = some (.slice Ao19 t197.length co19) := (blk_cell BK202.out 2).trans rfl
        have hcz35_3 : w22.cell? ⟨gb202, 3, none⟩ = some (.int .i64 t200) := (blk_cell BK202.out 3).trans rfl
        have hfz35_0 := blk_frozen BK202.out 0
        have hfz35_1 := blk_frozen BK202.out 1
        have hfz35_2 := blk_frozen BK202.out 2
        have hfz35_3 := blk_frozen BK202.out 3
        have hnb36 := NB210_187.out
        have hnc36 := NB187_210.out
        have hnb37 := NB210_194.out
        have hnc37 := NB194_210.out
        have hcz38_0 : w22.cell? ⟨gb210, 0, none⟩ = some (.int .i64 0) := (blk_cell BK210.out 0).trans rfl
        have hcz38_1 : w22.cell? ⟨gb210, 1, none⟩ = some (.int .i64 0) := (blk_cell BK210.out 1).trans rfl
        have hcz38_2 : w22.cell? ⟨gb210, 2, none⟩ = some (.slice none 0 0) := (blk_cell BK210.out 2).trans rfl
        have hcz38_3 : w22.cell? ⟨gb210, 3, none⟩ = some (.int .i64 0) := (blk_cell BK210.out 3).trans rfl
        have hfz38_0 := blk_frozen BK210.out 0
        have hfz38_1 := blk_frozen BK210.out 1
        have hfz38_2 := blk_frozen BK210.out 2
        have hfz38_3 := blk_frozen BK210.out 3
        go_wp2_with (first | ((with_reducible refine gate_callee (f := 16) rfl ?_); refine goesL_ (some 27) rfl rfl Try.func16 (by kernel_rfl) rfl #[.agg #[.int .i64 t195, .int .i64 t196, .slice Ao19 t197.length co19, .int .i64 t200], .agg #[.int .i64 t203, .int .i64 t204, .slice Ao27 t205.length co27, .int .i64 t208]] rfl (by (try simp only [List.map_toArray, List.map_cons, List.map_nil]); first | done | rfl | (simp only [List.length_drop, List.length_take]; rfl)) ?_; (with_reducible refine (rialtoref08_Same.calls k t195 t196 _ _ t197 t200 t203 t204 _ _ t205 t208 true _ ?side1 ?side2 ?side3 ?side4 A28.out).mono ?_); (case side1 => refine (Kd.R_reads' (e := 33) (base := w.heap.size) (ok := fun k_ => ((True ∧ some k_ ≠ (.slice Ao13 t190.length co13 : Value).ownBlock) ∧ some k_ ≠ (.slice Ao27 t205.length co27 : Value).ownBlock)) (n := t197.length) (c := co19) ?_).2.2; exact (by (with_reducible repeat (first | apply Kd.R_alloc | apply Kd.R_drewN | apply Kd.R_drew)); exact (Kd.R_mono (Kd.R_far (p := ⟨gb210, 3, none⟩) (Kd.R_far (p := ⟨gb210, 2, none⟩) (Kd.R_far (p := ⟨gb210, 1, none⟩) (Kd.R_far (p := ⟨gb210, 0, none⟩) (Kd.R_types HO199.out BK210.out (by decide)) (fun _ hk => hk.2) (.int .i64 t203)) (fun _ hk => hk.2) (.int .i64 t204)) (fun _ hk => hk.2) (.slice Ao27 t205.length co27)) (fun _ hk => hk.2) (.int .i64 t208)) (fun _ h_ => h_.1)))); (case side2 => exact (Kd.R_reads' HO199.out).2.1); (case side3 => refine (Kd.R_reads' (e := 33) (base := w.heap.size) (ok := fun k_ => ((True ∧ some k_ ≠ (.slice Ao13 t190.length co13 : Value).ownBlock) ∧ some k_ ≠ (.slice Ao19 t197.length co19 : Value).ownBlock)) (n := t205.length) (c := co27) ?_).2.2; exact (by (with_reducible repeat (first | apply Kd.R_alloc | apply Kd.R_drewN | apply Kd.R_drew)); exact (Kd.R_mono (Kd.R_far (p := ⟨gb210, 3, none⟩) (Kd.R_far (p := ⟨gb210, 2, none⟩) (Kd.R_far (p := ⟨gb210, 1, none⟩) (Kd.R_far (p := ⟨gb210, 0, none⟩) (Kd.R_types HO207.out BK210.out (by decide)) (fun _ hk => hk.2) (.int .i64 t203)) (fun _ hk => hk.2) (.int .i64 t204)) (fun _ hk => hk.2) (.slice Ao27 t205.length co27)) (fun _ hk => hk.2) (.int .i64 t208)) (fun _ h_ => h_.1)))); (case side4 => exact (Kd.R_reads' HO207.out).2.1); rintro e w39 ⟨rfl, hb⟩; refine ⟨_, rfl, ?_⟩; have n0_ := Aside0.mk (Kd.R_below (by (with_reducible repeat (first | apply Kd.R_alloc | apply Kd.R_drewN | apply Kd.R_drew)); exact (Kd.R_mono (Kd.R_far (p := ⟨gb210, 3, none⟩) (Kd.R_far (p := ⟨gb210, 2, none⟩) (Kd.R_far (p := ⟨gb210, 1, none⟩) (Kd.R_far (p := ⟨gb210, 0, none⟩) (Kd.R_types HO192.out BK210.out (by decide)) (fun _ hk => hk.2) (.int .i64 t203)) (fun _ hk => hk.2) (.int .i64 t204)) (fun _ hk => hk.2) (.slice Ao27 t205.length co27)) (fun _ hk => hk.2) (.int .i64 t208)) (fun _ h_ => h_.1))) hb); have n1_ := Aside0.mk (Kd.R_below (by (with_reducible repeat (first | apply Kd.R_alloc | apply Kd.R_drewN | apply Kd.R_drew)); exact (Kd.R_mono (Kd.R_far (p := ⟨gb210, 3, none⟩) (Kd.R_far (p := ⟨gb210, 2, none⟩) (Kd.R_far (p := ⟨gb210, 1, none⟩) (Kd.R_far (p := ⟨gb210, 0, none⟩) (Kd.R_types HO199.out BK210.out (by decide)) (fun _ hk => hk.2) (.int .i64 t203)) (fun _ hk => hk.2) (.int .i64 t204)) (fun _ hk => hk.2) (.slice Ao27 t205.length co27)) (fun _ hk => hk.2) (.int .i64 t208)) (fun _ h_ => h_.1))) hb); have n2_ := Aside0.mk (Kd.R_below (by (with_reducible repeat (first | apply Kd.R_alloc | apply Kd.R_drewN | apply Kd.R_drew)); exact (Kd.R_mono (Kd.R_far (p := ⟨gb210, 3, none⟩) (Kd.R_far (p := ⟨gb210, 2, none⟩) (Kd.R_far (p := ⟨gb210, 1, none⟩) (Kd.R_far (p := ⟨gb210, 0, none⟩) (Kd.R_types HO207.out BK210.out (by decide)) (fun _ hk => hk.2) (.int .i64 t203)) (fun _ hk => hk.2) (.int .i64 t204)) (fun _ hk => hk.2) (.slice Ao27 t205.length co27)) (fun _ hk => hk.2) (.int .i64 t208)) (fun _ h_ => h_.1))) hb); have n3_ := Aside0.mk (blk_below (g := gb187) (o := .cells #[.int .i64 a0_0, .int .i64 a0_1, .slice A0_2 l0_2.length c0_2, .int .i64 a0_3] 26 (0, 0)) (by (with_reducible repeat (first | refine blk_drewN ?_ _ | refine blk_drew ?_ | refine blk_alloc ?_ _)); refine blk_far ?_ NB187_210.out _; (with_reducible repeat (first | refine blk_drewN ?_ _ | refine blk_drew ?_ | refine blk_alloc ?_ _)); refine blk_far ?_ NB187_210.out _; (with_reducible repeat (first | refine blk_drewN ?_ _ | refine blk_drew ?_ | refine blk_alloc ?_ _)); refine blk_far ?_ NB187_210.out _; (with_reducible repeat (first | refine blk_drewN ?_ _ | refine blk_drew ?_ | refine blk_alloc ?_ _)); refine blk_far ?_ NB187_210.out _; (with_reducible repeat (first | refine blk_drewN ?_ _ | refine blk_drew ?_ | refine blk_alloc ?_ _)); exact BK187.out) hb); have n4_ := Aside0.mk (blk_below (g := gb194) (o := .cells #[.int .i64 t188, .int .i64 t189, .slice Ao13 t190.length co13, .int .i64 t193] 26 (0, 0)) (by (with_reducible repeat (first | refine blk_drewN ?_ _ | refine blk_drew ?_ | refine blk_alloc ?_ _)); refine blk_far ?_ NB194_210.out _; (with_reducible repeat (first | refine blk_drewN ?_ _ | refine blk_drew ?_ | refine blk_alloc ?_ _)); refine blk_far ?_ NB194_210.out _; (with_reducible repeat (first | refine blk_drewN ?_ _ | refine blk_drew ?_ | refine blk_alloc ?_ _)); refine blk_far ?_ NB194_210.out _; (with_reducible repeat (first | refine blk_drewN ?_ _ | refine blk_drew ?_ | refine blk_alloc ?_ _)); refine blk_far ?_ NB194_210.out _; (with_reducible repeat (first | refine blk_drewN ?_ _ | refine blk_drew ?_ | refine blk_alloc ?_ _)); exact BK194.out) hb); have n5_ := Aside0.mk (blk_below (g := gb202) (o := .cells #[.int .i64 t195, .int .i64 t196, .slice Ao19 t197.length co19, .int .i64 t200] 26 (0, 0)) (by (with_reducible repeat (first | refine blk_drewN ?_ _ | refine blk_drew ?_ | refine blk_alloc ?_ _)); refine blk_far ?_ NB202_210.out _; (with_reducible repeat (first | refine blk_drewN ?_ _ | refine blk_drew ?_ | refine blk_alloc ?_ _)); refine blk_far ?_ NB202_210.out _; (with_reducible repeat (first | refine blk_drewN ?_ _ | refine blk_drew ?_ | refine blk_alloc ?_ _)); refine blk_far ?_ NB202_210.out _; (with_reducible repeat (first | refine blk_drewN ?_ _ | refine blk_drew ?_ | refine blk_alloc ?_ _)); refine blk_far ?_ NB202_210.out _; (with_reducible repeat (first | refine blk_drewN ?_ _ | refine blk_drew ?_ | refine blk_alloc ?_ _)); exact BK202.out) hb); have n6_ := Aside0.mk (blk_below (g := gb210) (o := .cells #[.int .i64 t203, .int .i64 t204, .slice Ao27 t205.length co27, .int .i64 t208] 26 (0, 0)) (by (with_reducible repeat (first | refine blk_drewN ?_ _ | refine blk_drew ?_ | refine blk_alloc ?_ _)); refine blk_put (cs := #[.int .i64 t203, .int .i64 t204, .slice Ao27 t205.length co27, .int .i64 0]) ?_ 3 _ rfl; (with_reducible repeat (first | refine blk_drewN ?_ _ | refine blk_drew ?_ | refine blk_alloc ?_ _)); refine blk_put (cs := #[.int .i64 t203, .int .i64 t204, .slice none 0 0, .int .i64 0]) ?_ 2 _ rfl; (with_reducible repeat (first | refine blk_drewN ?_ _ | refine blk_drew ?_ | refine blk_alloc ?_ _)); refine blk_put (cs := #[.int .i64 t203, .int .i64 0, .slice none 0 0, .int .i64 0]) ?_ 1 _ rfl; (with_reducible repeat (first | refine blk_drewN ?_ _ | refine blk_drew ?_ | refine blk_alloc ?_ _)); refine blk_put (cs := #[.int .i64 0, .int .i64 0, .slice none 0 0, .int .i64 0]) ?_ 0 _ rfl; (with_reducible repeat (first | refine blk_drewN ?_ _ | refine blk_drew ?_ | refine blk_alloc ?_ _)); exact BK210.out) hb); have n7_ := Aside0.mk (below_step (by repeat (first | (with_reducible first | exact HB.out | apply below_alloc | apply pw_below_drewN | apply below_drew1 | refine below_set ?_ GE187.out | refine below_set ?_ GE194.out | refine below_set ?_ GE202.out | refine below_set ?_ GE210.out) | exact HB.out)) hb); clear HO192; clear HO199; clear HO207; clear BK187; clear BK194; clear BK202; clear BK210; clear HB; have HO192 := n0_; have HO199 := n1_; have HO207 := n2_; have BK187 := n3_; have BK194 := n4_; have BK202 := n5_; have BK210 := n6_; have HB := n7_; clear n0_ n1_ n2_ n3_ n4_ n5_ n6_ n7_; (try clear hb); (try clear hb2); (try clear hk); (try clear hi); have hnb40 := NB194_187.out; have hnc40 := NB187_194.out; have hcz41_0 : w39.cell? ⟨gb194, 0, none⟩ = some (.int .i64 t188) := (blk_cell BK194.out 0).trans rfl; have hcz41_1 : w39.cell? ⟨gb194, 1, none⟩ = some (.int .i64 t189) := (blk_cell BK194.out 1).trans rfl; have hcz41_2 : w39.cell? ⟨gb194, 2, none⟩ = some (.slice Ao13 t190.length co13) := (blk_cell BK194.out 2).trans rfl; have hcz41_3 : w39.cell? ⟨gb194, 3, none⟩ = some (.int .i64 t193) := (blk_cell BK194.out 3).trans rfl; have hfz41_0 := blk_frozen BK194.out 0; have hfz41_1 := blk_frozen BK194.out 1; have hfz41_2 := blk_frozen BK194.out 2; have hfz41_3 := blk_frozen BK194.out 3; have hcz42_0 : w39.cell? ⟨gb187, 0, none⟩ = some (.int .i64 a0_0) := (blk_cell BK187.out 0).trans rfl; have hcz42_1 : w39.cell? ⟨gb187, 1, none⟩ = some (.int .i64 a0_1) := (blk_cell BK187.out 1).trans rfl; have hcz42_2 : w39.cell? ⟨gb187, 2, none⟩ = some (.slice A0_2 l0_2.length c0_2) := (blk_cell BK187.out 2).trans rfl; have hcz42_3 : w39.cell? ⟨gb187, 3, none⟩ = some (.int .i64 a0_3) := (blk_cell BK187.out 3).trans rfl; have hfz42_0 := blk_frozen BK187.out 0; have hfz42_1 := blk_frozen BK187.out 1; have hfz42_2 := blk_frozen BK187.out 2; have hfz42_3 := blk_frozen BK187.out 3) | (go_at_call 16; (with_reducible refine (rialtoref08_Same.calls k t188 t189 _ _ t190 t193 a0_0 a0_1 _ _ l0_2 a0_3 t212 _ ?side1 ?side2 ?side3 ?side4 A31.out).mono ?_); (case side1 => repeat (first | exact (Kd.R_reads' HO192.out).2.2 | (with_reducible refine Kd.C_alloc ?_ _) | (with_reducible refine Kd.C_drewN ?_ _) | (with_reducible refine Kd.C_drew ?_))); (case side2 => exact (Kd.R_reads' HO192.out).2.1); (case side3 => repeat (first | exact (Kd.C_below HR0_2.out HB.out) | (with_reducible refine Kd.C_alloc ?_ _) | (with_reducible refine Kd.C_drewN ?_ _) | (with_reducible refine Kd.C_drew ?_))); (case side4 => exact HC0_2.out); rintro e w43 ⟨rfl, hb⟩; have n0_ := Aside0.mk (Kd.R_below (by (with_reducible repeat (first | apply Kd.R_alloc | apply Kd.R_drewN | apply Kd.R_drew)); exact HO192.out) hb); have n1_ := Aside0.mk (Kd.R_below (by (with_reducible repeat (first | apply Kd.R_alloc | apply Kd.R_drewN | apply Kd.R_drew)); exact HO199.out) hb); have n2_ := Aside0.mk (Kd.R_below (by (with_reducible repeat (first | apply Kd.R_alloc | apply Kd.R_drewN | apply Kd.R_drew)); exact HO207.out) hb); have n3_ := Aside0.mk (blk_below (g := gb187) (o := .cells #[.int .i64 a0_0, .int .i64 a0_1, .slice A0_2 l0_2.length c0_2, .int .i64 a0_3] 26 (0, 0)) (by (with_reducible repeat (first | refine blk_drewN ?_ _ | refine blk_drew ?_ | refine blk_alloc ?_ _)); exact BK187.out) hb); have n4_ := Aside0.mk (blk_below (g := gb194) (o := .cells #[.int .i64 t188, .int .i64 t189, .slice Ao13 t190.length co13, .int .i64 t193] 26 (0, 0)) (by (with_reducible repeat (first | refine blk_drewN ?_ _ | refine blk_drew ?_ | refine blk_alloc ?_ _)); exact BK194.out) hb); have n5_ := Aside0.mk (blk_below (g := gb202) (o := .cells #[.int .i64 t195, .int .i64 t196, .slice Ao19 t197.length co19, .int .i64 t200] 26 (0, 0)) (by (with_reducible repeat (first | refine blk_drewN ?_ _ | refine blk_drew ?_ | refine blk_alloc ?_ _)); exact BK202.out) hb); have n6_ := Aside0.mk (blk_below (g := gb210) (o := .cells #[.int .i64 t203, .int .i64 t204, .slice Ao27 t205.length co27, .int .i64 t208] 26 (0, 0)) (by (with_reducible repeat (first | refine blk_drewN ?_ _ | refine blk_drew ?_ | refine blk_alloc ?_ _)); exact BK210.out) hb); have n7_ := Aside0.mk (below_step (by repeat (first | (with_reducible first | exact HB.out | apply below_alloc | apply pw_below_drewN | apply below_drew1 | refine below_set ?_ GE187.out | refine below_set ?_ GE194.out | refine below_set ?_ GE202.out | refine below_set ?_ GE210.out) | exact HB.out)) hb); clear HO192; clear HO199; clear HO207; clear BK187; clear BK194; clear BK202; clear BK210; clear HB; have HO192 := n0_; have HO199 := n1_; have HO207 := n2_; have BK187 := n3_; have BK194 := n4_; have BK202 := n5_; have BK210 := n6_; have HB := n7_; clear n0_ n1_ n2_ n3_ n4_ n5_ n6_ n7_; (try clear hb); (try clear hb2); (try clear hk); (try clear hi)))
        go_meet
        case rel => exact ⟨_, (!t212), (by first | rfl | (simp; done) | (simp [*]; done)), H', ⟨by first | omega | exact Nat.le_refl _⟩, ⟨by (with_reducible repeat (first | apply Kd.R_alloc | apply Kd.R_drewN | apply Kd.R_drew)); exact Kd.R_mono HO192.out (fun _ hk => ⟨hk.1.2, hk.2⟩)⟩, ⟨by (with_reducible repeat (first | apply Kd.R_alloc | apply Kd.R_drewN | apply Kd.R_drew)); exact Kd.R_mono HO199.out (fun _ hk => ⟨hk.1.2, hk.2⟩)⟩, ⟨by (with_reducible repeat (first | apply Kd.R_alloc | apply Kd.R_drewN | apply Kd.R_drew)); exact Kd.R_mono HO207.out (fun _ hk => ⟨hk.1.2, hk.2⟩)⟩, ⟨by (with_reducible repeat (first | refine blk_drewN ?_ _ | refine blk_drew ?_ | refine blk_alloc ?_ _)); exact BK187.out⟩, ⟨by (with_reducible repeat (first | refine blk_drewN ?_ _ | refine blk_drew ?_ | refine blk_alloc ?_ _)); exact BK194.out⟩, ⟨by (with_reducible repeat (first | refine blk_drewN ?_ _ | refine blk_drew ?_ | refine blk_alloc ?_ _)); exact BK202.out⟩, ⟨by (with_reducible repeat (first | refine blk_drewN ?_ _ | refine blk_drew ?_ | refine blk_alloc ?_ _)); exact BK210.out⟩, ⟨by repeat (first | (with_reducible first | exact HB.out | apply below_alloc | apply pw_below_drewN | apply below_drew1 | refine below_set ?_ GE187.out | refine below_set ?_ GE194.out | refine below_set ?_ GE202.out | refine below_set ?_ GE210.out) | exact HB.out)⟩⟩
      · rw [if_neg c30] at H
        have c30b0 : (t201 == t209) = false := beq_eq_false_iff_ne.mpr c30
        have c30b1 : (t201 != t209) = true := bne_iff_ne.mpr c30
        (first | rw [c30b0] | (simp only [i64_w, i32_w]; rw [c30b0]) | skip)
        have H' := Aside0.mk H
        clear H
        have hnb44 := NB202_187.out
        have hnc44 := NB187_202.out
        have hnb45 := NB202_194.out
        have hnc45 := NB194_202.out
        have hnb46 := NB202_210.out
        have hnc46 := NB210_202.out
        have hcz47_0 : w22.cell? ⟨gb202, 0, none⟩ = some (.int .i64 t195) := (blk_cell BK202.out 0).trans rfl
        have hcz47_1 : w22.cell? ⟨gb202, 1, none⟩ = some (.int .i64 t196) := (blk_cell BK202.out 1).trans rfl
        have hcz47_2 : w22.cell? ⟨gb202, 2, none⟩ = some (.slice Ao19 t197.length co19) := (blk_cell BK202.out 2).trans rfl
        have hcz47_3 : w22.cell? ⟨gb202, 3, none⟩ = some (.int .i64 t200) := (blk_cell BK202.out 3).trans rfl
        have hfz47_0 := blk_frozen BK202.out 0
        have hfz47_1 := blk_frozen BK202.out 1
        have hfz47_2 := blk_frozen BK202.out 2
        have hfz47_3 := blk_frozen BK202.out 3
        have hnb48 := NB210_187.out
        have hnc48 := NB187_210.out
        have hnb49 := NB210_194.out
        have hnc49 := NB194_210.out
        have hcz50_0 : w22.cell? ⟨gb210, 0, none⟩ = some (.int .i64 0) := (blk_cell BK210.out 0).trans rfl
        have hcz50_1 : w22.cell? ⟨gb210, 1, none⟩ = some (.int .i64 0) := (blk_cell BK210.out 1).trans rfl
        have hcz50_2 : w22.cell? ⟨gb210, 2, none⟩ = some (.slice none 0 0) := (blk_cell BK210.out 2).trans rfl
        have hcz50_3 : w22.cell? ⟨gb210, 3, none⟩ = some (.int .i64 0) := (blk_cell BK210.out 3).trans rfl
        have hfz50_0 := blk_frozen BK210.out 0
        have hfz50_1 := blk_frozen BK210.out 1
        have hfz50_2 := blk_frozen BK210.out 2
        have hfz50_3 := blk_frozen BK210.out 3
        go_wp2_with (first | ((with_reducible refine gate_callee (f := 16) rfl ?_); refine goesL_ (some 27) rfl rfl Try.func16 (by kernel_rfl) rfl #[.agg #[.int .i64 t195, .int .i64 t196, .slice Ao19 t197.length co19, .int .i64 t200], .agg #[.int .i64 t203, .int .i64 t204, .slice Ao27 t205.length co27, .int .i64 t208]] rfl (by (try simp only [List.map_toArray, List.map_cons, List.map_nil]); first | done | rfl | (simp only [List.length_drop, List.length_take]; rfl)) ?_; (with_reducible refine (rialtoref08_Same.calls k t195 t196 _ _ t197 t200 t203 t204 _ _ t205 t208 true _ ?side1 ?side2 ?side3 ?side4 A28.out).mono ?_); (case side1 => refine (Kd.R_reads' (e := 33) (base := w.heap.size) (ok := fun k_ => ((True ∧ some k_ ≠ (.slice Ao13 t190.length co13 : Value).ownBlock) ∧ some k_ ≠ (.slice Ao27 t205.length co27 : Value).ownBlock)) (n := t197.length) (c := co19) ?_).2.2; exact (by (with_reducible repeat (first | apply Kd.R_alloc | apply Kd.R_drewN | apply Kd.R_drew)); exact (Kd.R_mono (Kd.R_far (p := ⟨gb210, 3, none⟩) (Kd.R_far (p := ⟨gb210, 2, none⟩) (Kd.R_far (p := ⟨gb210, 1, none⟩) (Kd.R_far (p := ⟨gb210, 0, none⟩) (Kd.R_types HO199.out BK210.out (by decide)) (fun _ hk => hk.2) (.int .i64 t203)) (fun _ hk => hk.2) (.int .i64 t204)) (fun _ hk => hk.2) (.slice Ao27 t205.length co27)) (fun _ hk => hk.2) (.int .i64 t208)) (fun _ h_ => h_.1)))); (case side2 => exact (Kd.R_reads' HO199.out).2.1); (case side3 => refine (Kd.R_reads' (e := 33) (base := w.heap.size) (ok := fun k_ => ((True ∧ some k_ ≠ (.slice Ao13 t190.length co13 : Value).ownBlock) ∧ some k_ ≠ (.slice Ao19 t197.length co19 : Value).ownBlock)) (n := t205.length) (c := co27) ?_).2.2; exact (by (with_reducible repeat (first | apply Kd.R_alloc | apply Kd.R_drewN | apply Kd.R_drew)); exact (Kd.R_mono (Kd.R_far (p := ⟨gb210, 3, none⟩) (Kd.R_far (p := ⟨gb210, 2, none⟩) (Kd.R_far (p := ⟨gb210, 1, none⟩) (Kd.R_far (p := ⟨gb210, 0, none⟩) (Kd.R_types HO207.out BK210.out (by decide)) (fun _ hk => hk.2) (.int .i64 t203)) (fun _ hk => hk.2) (.int .i64 t204)) (fun _ hk => hk.2) (.slice Ao27 t205.length co27)) (fun _ hk => hk.2) (.int .i64 t208)) (fun _ h_ => h_.1)))); (case side4 => exact (Kd.R_reads' HO207.out).2.1); rintro e w51 ⟨rfl, hb⟩; refine ⟨_, rfl, ?_⟩; have n0_ := Aside0.mk (Kd.R_below (by (with_reducible repeat (first | apply Kd.R_alloc | apply Kd.R_drewN | apply Kd.R_drew)); exact (Kd.R_mono (Kd.R_far (p := ⟨gb210, 3, none⟩) (Kd.R_far (p := ⟨gb210, 2, none⟩) (Kd.R_far (p := ⟨gb210, 1, none⟩) (Kd.R_far (p := ⟨gb210, 0, none⟩) (Kd.R_types HO192.out BK210.out (by decide)) (fun _ hk => hk.2) (.int .i64 t203)) (fun _ hk => hk.2) (.int .i64 t204)) (fun _ hk => hk.2) (.slice Ao27 t205.length co27)) (fun _ hk => hk.2) (.int .i64 t208)) (fun _ h_ => h_.1))) hb); have n1_ := Aside0.mk (Kd.R_below (by (with_reducible repeat (first | apply Kd.R_alloc | apply Kd.R_drewN | apply Kd.R_drew)); exact (Kd.R_mono (Kd.R_far (p := ⟨gb210, 3, none⟩) (Kd.R_far (p := ⟨gb210, 2, none⟩) (Kd.R_far (p := ⟨gb210, 1, none⟩) (Kd.R_far (p := ⟨gb210, 0, none⟩) (Kd.R_types HO199.out BK210.out (by decide)) (fun _ hk => hk.2) (.int .i64 t203)) (fun _ hk => hk.2) (.int .i64 t204)) (fun _ hk => hk.2) (.slice Ao27 t205.length co27)) (fun _ hk => hk.2) (.int .i64 t208)) (fun _ h_ => h_.1))) hb); have n2_ := Aside0.mk (Kd.R_below (by (with_reducible repeat (first | apply Kd.R_alloc | apply Kd.R_drewN | apply Kd.R_drew)); exact (Kd.R_mono (Kd.R_far (p := ⟨gb210, 3, none⟩) (Kd.R_far (p := ⟨gb210, 2, none⟩) (Kd.R_far (p := ⟨gb210, 1, none⟩) (Kd.R_far (p := ⟨gb210, 0, none⟩) (Kd.R_types HO207.out BK210.out (by decide)) (fun _ hk => hk.2) (.int .i64 t203)) (fun _ hk => hk.2) (.int .i64 t204)) (fun _ hk => hk.2) (.slice Ao27 t205.length co27)) (fun _ hk => hk.2) (.int .i64 t208)) (fun _ h_ => h_.1))) hb); have n3_ := Aside0.mk (blk_below (g := gb187) (o := .cells #[.int .i64 a0_0, .int .i64 a0_1, .slice A0_2 l0_2.length c0_2, .int .i64 a0_3] 26 (0, 0)) (by (with_reducible repeat (first | refine blk_drewN ?_ _ | refine blk_drew ?_ | refine blk_alloc ?_ _)); refine blk_far ?_ NB187_210.out _; (with_reducible repeat (first | refine blk_drewN ?_ _ | refine blk_drew ?_ | refine blk_alloc ?_ _)); refine blk_far ?_ NB187_210.out _; (with_reducible repeat (first | refine blk_drewN ?_ _ | refine blk_drew ?_ | refine blk_alloc ?_ _)); refine blk_far ?_ NB187_210.out _; (with_reducible repeat (first | refine blk_drewN ?_ _ | refine blk_drew ?_ | refine blk_alloc ?_ _)); refine blk_far ?_ NB187_210.out _; (with_reducible repeat (first | refine blk_drewN ?_ _ | refine blk_drew ?_ | refine blk_alloc ?_ _)); exact BK187.out) hb); have n4_ := Aside0.mk (blk_below (g := gb194) (o := .cells #[.int .i64 t188, .int .i64 t189, .slice Ao13 t190.length co13, .int .i64 t193] 26 (0, 0)) (by (with_reducible repeat (first | refine blk_drewN ?_ _ | refine blk_drew ?_ | refine blk_alloc ?_ _)); refine blk_far ?_ NB194_210.out _; (with_reducible repeat (first | refine blk_drewN ?_ _ | refine blk_drew ?_ | refine blk_alloc ?_ _)); refine blk_far ?_ NB194_210.out _; (with_reducible repeat (first | refine blk_drewN ?_ _ | refine blk_drew ?_ | refine blk_alloc ?_ _)); refine blk_far ?_ NB194_210.out _; (with_reducible repeat (first | refine blk_drewN ?_ _ | refine blk_drew ?_ | refine blk_alloc ?_ _)); refine blk_far ?_ NB194_210.out _; (with_reducible repeat (first | refine blk_drewN ?_ _ | refine blk_drew ?_ | refine blk_alloc ?_ _)); exact BK194.out) hb); have n5_ := Aside0.mk (blk_below (g := gb202) (o := .cells #[.int .i64 t195, .int .i64 t196, .slice Ao19 t197.length co19, .int .i64 t200] 26 (0, 0)) (by (with_reducible repeat (first | refine blk_drewN ?_ _ | refine blk_drew ?_ | refine blk_alloc ?_ _)); refine blk_far ?_ NB202_210.out _; (with_reducible repeat (first | refine blk_drewN ?_ _ | refine blk_drew ?_ | refine blk_alloc ?_ _)); refine blk_far ?_ NB202_210.out _; (with_reducible repeat (first | refine blk_drewN ?_ _ | refine blk_drew ?_ | refine blk_alloc ?_ _)); refine blk_far ?_ NB202_210.out _; (with_reducible repeat (first | refine blk_drewN ?_ _ | refine blk_drew ?_ | refine blk_alloc ?_ _)); refine blk_far ?_ NB202_210.out _; (with_reducible repeat (first | refine blk_drewN ?_ _ | refine blk_drew ?_ | refine blk_alloc ?_ _)); exact BK202.out) hb); have n6_ := Aside0.mk (blk_below (g := gb210) (o := .cells #[.int .i64 t203, .int .i64 t204, .slice Ao27 t205.length co27, .int .i64 t208] 26 (0, 0)) (by (with_reducible repeat (first | refine blk_drewN ?_ _ | refine blk_drew ?_ | refine blk_alloc ?_ _)); refine blk_put (cs := #[.int .i64 t203, .int .i64 t204, .slice Ao27 t205.length co27, .int .i64 0]) ?_ 3 _ rfl; (with_reducible repeat (first | refine blk_drewN ?_ _ | refine blk_drew ?_ | refine blk_alloc ?_ _)); refine blk_put (cs := #[.int .i64 t203, .int .i64 t204, .slice none 0 0, .int .i64 0]) ?_ 2 _ rfl; (with_reducible repeat (first | refine blk_drewN ?_ _ | refine blk_drew ?_ | refine blk_alloc ?_ _)); refine blk_put (cs := #[.int .i64 t203, .int .i64 0, .slice none 0 0, .int .i64 0]) ?_ 1 _ rfl; (with_reducible repeat (first | refine blk_drewN ?_ _ | refine blk_drew ?_ | refine blk_alloc ?_ _)); refine blk_put (cs := #[.int .i64 0, .int .i64 0, .slice none 0 0, .int .i64 0]) ?_ 0 _ rfl; (with_reducible repeat (first | refine blk_drewN ?_ _ | refine blk_drew ?_ | refine blk_alloc ?_ _)); exact BK210.out) hb); have n7_ := Aside0.mk (below_step (by repeat (first | (with_reducible first | exact HB.out | apply below_alloc | apply pw_below_drewN | apply below_drew1 | refine below_set ?_ GE187.out | refine below_set ?_ GE194.out | refine below_set ?_ GE202.out | refine below_set ?_ GE210.out) | exact HB.out)) hb); clear HO192; clear HO199; clear HO207; clear BK187; clear BK194; clear BK202; clear BK210; clear HB; have HO192 := n0_; have HO199 := n1_; have HO207 := n2_; have BK187 := n3_; have BK194 := n4_; have BK202 := n5_; have BK210 := n6_; have HB := n7_; clear n0_ n1_ n2_ n3_ n4_ n5_ n6_ n7_; (try clear hb); (try clear hb2); (try clear hk); (try clear hi)))
        go_meet
        case rel => exact ⟨_, (true), (by first | rfl | (simp; done) | (simp [*]; done)), H', ⟨by first | omega | exact Nat.le_refl _⟩, ⟨by (with_reducible repeat (first | apply Kd.R_alloc | apply Kd.R_drewN | apply Kd.R_drew)); exact Kd.R_mono HO192.out (fun _ hk => ⟨hk.1.2, hk.2⟩)⟩, ⟨by (with_reducible repeat (first | apply Kd.R_alloc | apply Kd.R_drewN | apply Kd.R_drew)); exact Kd.R_mono HO199.out (fun _ hk => ⟨hk.1.2, hk.2⟩)⟩, ⟨by (with_reducible repeat (first | apply Kd.R_alloc | apply Kd.R_drewN | apply Kd.R_drew)); exact Kd.R_mono HO207.out (fun _ hk => ⟨hk.1.2, hk.2⟩)⟩, ⟨by (with_reducible repeat (first | refine blk_drewN ?_ _ | refine blk_drew ?_ | refine blk_alloc ?_ _)); exact BK187.out⟩, ⟨by (with_reducible repeat (first | refine blk_drewN ?_ _ | refine blk_drew ?_ | refine blk_alloc ?_ _)); exact BK194.out⟩, ⟨by (with_reducible repeat (first | refine blk_drewN ?_ _ | refine blk_drew ?_ | refine blk_alloc ?_ _)); exact BK202.out⟩, ⟨by (with_reducible repeat (first | refine blk_drewN ?_ _ | refine blk_drew ?_ | refine blk_alloc ?_ _)); exact BK210.out⟩, ⟨by repeat (first | (with_reducible first | exact HB.out | apply below_alloc | apply pw_below_drewN | apply below_drew1 | refine below_set ?_ GE187.out | refine below_set ?_ GE194.out | refine below_set ?_ GE202.out | refine below_set ?_ GE210.out) | exact HB.out)⟩⟩
    · replace c29 := Bool.eq_false_iff.mpr c29
      subst c29
      have H1 : (rialtolaw09_SnapCompacts.j0 k true a0_0 a0_1 l0_2 a0_3 t188 t189 t190 t193 t195 t196 t197 t200) = some r := by rw [if_neg (show ¬ (false = true) by decide)] at H; exact H
      clear H
      have H := H1
      clear H1
      have H' := Aside0.mk H
      clear H
      have hnb52 := NB202_187.out
      have hnc52 := NB187_202.out
      have hnb53 := NB202_194.out
      have hnc53 := NB194_202.out
      have hnb54 := NB202_210.out
      have hnc54 := NB210_202.out
      have hcz55_0 : w22.cell? ⟨gb202, 0, none⟩ = some (.int .i64 t195) := (blk_cell BK202.out 0).trans rfl
      have hcz55_1 : w22.cell? ⟨gb202, 1, none⟩ = some (.int .i64 t196) := (blk_cell BK202.out 1).trans rfl
      have hcz55_2 : w22.cell? ⟨gb202, 2, none⟩ = some (.slice Ao19 t197.length co19) := (blk_cell BK202.out 2).trans rfl
      have hcz55_3 : w22.cell? ⟨gb202, 3, none⟩ = some (.int .i64 t200) := (blk_cell BK202.out 3).trans rfl
      have hfz55_0 := blk_frozen BK202.out 0
      have hfz55_1 := blk_frozen BK202.out 1
      have hfz55_2 := blk_frozen BK202.out 2
      have hfz55_3 := blk_frozen BK202.out 3
      have hnb56 := NB210_187.out
      have hnc56 := NB187_210.out
      have hnb57 := NB210_194.out
      have hnc57 := NB194_210.out
      have hcz58_0 : w22.cell? ⟨gb210, 0, none⟩ = some (.int .i64 0) := (blk_cell BK210.out 0).trans rfl
      have hcz58_1 : w22.cell? ⟨gb210, 1, none⟩ = some (.int .i64 0) := (blk_cell BK210.out 1).trans rfl
      have hcz58_2 : w22.cell? ⟨gb210, 2, none⟩ = some (.slice none 0 0) := (blk_cell BK210.out 2).trans rfl
      have hcz58_3 : w22.cell? ⟨gb210, 3, none⟩ = some (.int .i64 0) := (blk_cell BK210.out 3).trans rfl
      have hfz58_0 := blk_frozen BK210.out 0
      have hfz58_1 := blk_frozen BK210.out 1
      have hfz58_2 := blk_frozen BK210.out 2
      have hfz58_3 := blk_frozen BK210.out 3
      go_wp2_with (first | ((with_reducible refine gate_callee (f := 16) rfl ?_); refine goesL_ (some 27) rfl rfl Try.func16 (by kernel_rfl) rfl #[.agg #[.int .i64 t195, .int .i64 t196, .slice Ao19 t197.length co19, .int .i64 t200], .agg #[.int .i64 t203, .int .i64 t204, .slice Ao27 t205.length co27, .int .i64 t208]] rfl (by (try simp only [List.map_toArray, List.map_cons, List.map_nil]); first | done | rfl | (simp only [List.length_drop, List.length_take]; rfl)) ?_; (with_reducible refine (rialtoref08_Same.calls k t195 t196 _ _ t197 t200 t203 t204 _ _ t205 t208 false _ ?side1 ?side2 ?side3 ?side4 A28.out).mono ?_); (case side1 => refine (Kd.R_reads' (e := 33) (base := w.heap.size) (ok := fun k_ => ((True ∧ some k_ ≠ (.slice Ao13 t190.length co13 : Value).ownBlock) ∧ some k_ ≠ (.slice Ao27 t205.length co27 : Value).ownBlock)) (n := t197.length) (c := co19) ?_).2.2; exact (by (with_reducible repeat (first | apply Kd.R_alloc | apply Kd.R_drewN | apply Kd.R_drew)); exact (Kd.R_mono (Kd.R_far (p := ⟨gb210, 3, none⟩) (Kd.R_far (p := ⟨gb210, 2, none⟩) (Kd.R_far (p := ⟨gb210, 1, none⟩) (Kd.R_far (p := ⟨gb210, 0, none⟩) (Kd.R_types HO199.out BK210.out (by decide)) (fun _ hk => hk.2) (.int .i64 t203)) (fun _ hk => hk.2) (.int .i64 t204)) (fun _ hk => hk.2) (.slice Ao27 t205.length co27)) (fun _ hk => hk.2) (.int .i64 t208)) (fun _ h_ => h_.1)))); (case side2 => exact (Kd.R_reads' HO199.out).2.1); (case side3 => refine (Kd.R_reads' (e := 33) (base := w.heap.size) (ok := fun k_ => ((True ∧ some k_ ≠ (.slice Ao13 t190.length co13 : Value).ownBlock) ∧ some k_ ≠ (.slice Ao19 t197.length co19 : Value).ownBlock)) (n := t205.length) (c := co27) ?_).2.2; exact (by (with_reducible repeat (first | apply Kd.R_alloc | apply Kd.R_drewN | apply Kd.R_drew)); exact (Kd.R_mono (Kd.R_far (p := ⟨gb210, 3, none⟩) (Kd.R_far (p := ⟨gb210, 2, none⟩) (Kd.R_far (p := ⟨gb210, 1, none⟩) (Kd.R_far (p := ⟨gb210, 0, none⟩) (Kd.R_types HO207.out BK210.out (by decide)) (fun _ hk => hk.2) (.int .i64 t203)) (fun _ hk => hk.2) (.int .i64 t204)) (fun _ hk => hk.2) (.slice Ao27 t205.length co27)) (fun _ hk => hk.2) (.int .i64 t208)) (fun _ h_ => h_.1)))); (case side4 => exact (Kd.R_reads' HO207.out).2.1); rintro e w59 ⟨rfl, hb⟩; refine ⟨_, rfl, ?_⟩; have n0_ := Aside0.mk (Kd.R_below (by (with_reducible repeat (first | apply Kd.R_alloc | apply Kd.R_drewN | apply Kd.R_drew)); exact (Kd.R_mono (Kd.R_far (p := ⟨gb210, 3, none⟩) (Kd.R_far (p := ⟨gb210, 2, none⟩) (Kd.R_far (p := ⟨gb210, 1, none⟩) (Kd.R_far (p := ⟨gb210, 0, none⟩) (Kd.R_types HO192.out BK210.out (by decide)) (fun _ hk => hk.2) (.int .i64 t203)) (fun _ hk => hk.2) (.int .i64 t204)) (fun _ hk => hk.2) (.slice Ao27 t205.length co27)) (fun _ hk => hk.2) (.int .i64 t208)) (fun _ h_ => h_.1))) hb); have n1_ := Aside0.mk (Kd.R_below (by (with_reducible repeat (first | apply Kd.R_alloc | apply Kd.R_drewN | apply Kd.R_drew)); exact (Kd.R_mono (Kd.R_far (p := ⟨gb210, 3, none⟩) (Kd.R_far (p := ⟨gb210, 2, none⟩) (Kd.R_far (p := ⟨gb210, 1, none⟩) (Kd.R_far (p := ⟨gb210, 0, none⟩) (Kd.R_types HO199.out BK210.out (by decide)) (fun _ hk => hk.2) (.int .i64 t203)) (fun _ hk => hk.2) (.int .i64 t204)) (fun _ hk => hk.2) (.slice Ao27 t205.length co27)) (fun _ hk => hk.2) (.int .i64 t208)) (fun _ h_ => h_.1))) hb); have n2_ := Aside0.mk (Kd.R_below (by (with_reducible repeat (first | apply Kd.R_alloc | apply Kd.R_drewN | apply Kd.R_drew)); exact (Kd.R_mono (Kd.R_far (p := ⟨gb210, 3, none⟩) (Kd.R_far (p := ⟨gb210, 2, none⟩) (Kd.R_far (p := ⟨gb210, 1, none⟩) (Kd.R_far (p := ⟨gb210, 0, none⟩) (Kd.R_types HO207.out BK210.out (by decide)) (fun _ hk => hk.2) (.int .i64 t203)) (fun _ hk => hk.2) (.int .i64 t204)) (fun _ hk => hk.2) (.slice Ao27 t205.length co27)) (fun _ hk => hk.2) (.int .i64 t208)) (fun _ h_ => h_.1))) hb); have n3_ := Aside0.mk (blk_below (g := gb187) (o := .cells #[.int .i64 a0_0, .int .i64 a0_1, .slice A0_2 l0_2.length c0_2, .int .i64 a0_3] 26 (0, 0)) (by (with_reducible repeat (first | refine blk_drewN ?_ _ | refine blk_drew ?_ | refine blk_alloc ?_ _)); refine blk_far ?_ NB187_210.out _; (with_reducible repeat (first | refine blk_drewN ?_ _ | refine blk_drew ?_ | refine blk_alloc ?_ _)); refine blk_far ?_ NB187_210.out _; (with_reducible repeat (first | refine blk_drewN ?_ _ | refine blk_drew ?_ | refine blk_alloc ?_ _)); refine blk_far ?_ NB187_210.out _; (with_reducible repeat (first | refine blk_drewN ?_ _ | refine blk_drew ?_ | refine blk_alloc ?_ _)); refine blk_far ?_ NB187_210.out _; (with_reducible repeat (first | refine blk_drewN ?_ _ | refine blk_drew ?_ | refine blk_alloc ?_ _)); exact BK187.out) hb); have n4_ := Aside0.mk (blk_below (g := gb194) (o := .cells #[.int .i64 t188, .int .i64 t189, .slice Ao13 t190.length co13, .int .i64 t193] 26 (0, 0)) (by (with_reducible repeat (first | refine blk_drewN ?_ _ | refine blk_drew ?_ | refine blk_alloc ?_ _)); refine blk_far ?_ NB194_210.out _; (with_reducible repeat (first | refine blk_drewN ?_ _ | refine blk_drew ?_ | refine blk_alloc ?_ _)); refine blk_far ?_ NB194_210.out _; (with_reducible repeat (first | refine blk_drewN ?_ _ | refine blk_drew ?_ | refine blk_alloc ?_ _)); refine blk_far ?_ NB194_210.out _; (with_reducible repeat (first | refine blk_drewN ?_ _ | refine blk_drew ?_ | refine blk_alloc ?_ _)); refine blk_far ?_ NB194_210.out _; (with_reducible repeat (first | refine blk_drewN ?_ _ | refine blk_drew ?_ | refine blk_alloc ?_ _)); exact BK194.out) hb); have n5_ := Aside0.mk (blk_below (g := gb202) (o := .cells #[.int .i64 t195, .int .i64 t196, .slice Ao19 t197.length co19, .int .i64 t200] 26 (0, 0)) (by (with_reducible repeat (first | refine blk_drewN ?_ _ | refine blk_drew ?_ | refine blk_alloc ?_ _)); refine blk_far ?_ NB202_210.out _; (with_reducible repeat (first | refine blk_drewN ?_ _ | refine blk_drew ?_ | refine blk_alloc ?_ _)); refine blk_far ?_ NB202_210.out _; (with_reducible repeat (first | refine blk_drewN ?_ _ | refine blk_drew ?_ | refine blk_alloc ?_ _)); refine blk_far ?_ NB202_210.out _; (with_reducible repeat (first | refine blk_drewN ?_ _ | refine blk_drew ?_ | refine blk_alloc ?_ _)); refine blk_far ?_ NB202_210.out _; (with_reducible repeat (first | refine blk_drewN ?_ _ | refine blk_drew ?_ | refine blk_alloc ?_ _)); exact BK202.out) hb); have n6_ := Aside0.mk (blk_below (g := gb210) (o := .cells #[.int .i64 t203, .int .i64 t204, .slice Ao27 t205.length co27, .int .i64 t208] 26 (0, 0)) (by (with_reducible repeat (first | refine blk_drewN ?_ _ | refine blk_drew ?_ | refine blk_alloc ?_ _)); refine blk_put (cs := #[.int .i64 t203, .int .i64 t204, .slice Ao27 t205.length co27, .int .i64 0]) ?_ 3 _ rfl; (with_reducible repeat (first | refine blk_drewN ?_ _ | refine blk_drew ?_ | refine blk_alloc ?_ _)); refine blk_put (cs := #[.int .i64 t203, .int .i64 t204, .slice none 0 0, .int .i64 0]) ?_ 2 _ rfl; (with_reducible repeat (first | refine blk_drewN ?_ _ | refine blk_drew ?_ | refine blk_alloc ?_ _)); refine blk_put (cs := #[.int .i64 t203, .int .i64 0, .slice none 0 0, .int .i64 0]) ?_ 1 _ rfl; (with_reducible repeat (first | refine blk_drewN ?_ _ | refine blk_drew ?_ | refine blk_alloc ?_ _)); refine blk_put (cs := #[.int .i64 0, .int .i64 0, .slice none 0 0, .int .i64 0]) ?_ 0 _ rfl; (with_reducible repeat (first | refine blk_drewN ?_ _ | refine blk_drew ?_ | refine blk_alloc ?_ _)); exact BK210.out) hb); have n7_ := Aside0.mk (below_step (by repeat (first | (with_reducible first | exact HB.out | apply below_alloc | apply pw_below_drewN | apply below_drew1 | refine below_set ?_ GE187.out | refine below_set ?_ GE194.out | refine below_set ?_ GE202.out | refine below_set ?_ GE210.out) | exact HB.out)) hb); clear HO192; clear HO199; clear HO207; clear BK187; clear BK194; clear BK202; clear BK210; clear HB; have HO192 := n0_; have HO199 := n1_; have HO207 := n2_; have BK187 := n3_; have BK194 := n4_; have BK202 := n5_; have BK210 := n6_; have HB := n7_; clear n0_ n1_ n2_ n3_ n4_ n5_ n6_ n7_; (try clear hb); (try clear hb2); (try clear hk); (try clear hi)))
      go_meet
      case rel => exact ⟨_, (true), (by first | rfl | (simp; done) | (simp [*]; done)), H', ⟨by first | omega | exact Nat.le_refl _⟩, ⟨by (with_reducible repeat (first | apply Kd.R_alloc | apply Kd.R_drewN | apply Kd.R_drew)); exact Kd.R_mono HO192.out (fun _ hk => ⟨hk.1.2, hk.2⟩)⟩, ⟨by (with_reducible repeat (first | apply Kd.R_alloc | apply Kd.R_drewN | apply Kd.R_drew)); exact Kd.R_mono HO199.out (fun _ hk => ⟨hk.1.2, hk.2⟩)⟩, ⟨by (with_reducible repeat (first | apply Kd.R_alloc | apply Kd.R_drewN | apply Kd.R_drew)); exact Kd.R_mono HO207.out (fun _ hk => ⟨hk.1.2, hk.2⟩)⟩, ⟨by (with_reducible repeat (first | refine blk_drewN ?_ _ | refine blk_drew ?_ | refine blk_alloc ?_ _)); exact BK187.out⟩, ⟨by (with_reducible repeat (first | refine blk_drewN ?_ _ | refine blk_drew ?_ | refine blk_alloc ?_ _)); exact BK194.out⟩, ⟨by (with_reducible repeat (first | refine blk_drewN ?_ _ | refine blk_drew ?_ | refine blk_alloc ?_ _)); exact BK202.out⟩, ⟨by (with_reducible repeat (first | refine blk_drewN ?_ _ | refine blk_drew ?_ | refine blk_alloc ?_ _)); exact BK210.out⟩, ⟨by repeat (first | (with_reducible first | exact HB.out | apply below_alloc | apply pw_below_drewN | apply below_drew1 | refine below_set ?_ GE187.out | refine below_set ?_ GE194.out | refine below_set ?_ GE202.out | refine below_set ?_ GE210.out) | exact HB.out)⟩⟩
  case rest =>
    clear HC6
    try clear c1
    try clear c2
    try clear p2
    try clear c3
    try clear c4
    try clear c5
    try clear c11
    try clear c13
    try clear c14
    try clear c15
    try clear c16
    try clear c17
    try clear c23
    try clear c24
    try clear c25
    try clear c29
    try clear c30
    try clear c30b0
    try clear c30b1
    try clear c32
    try clear c33
    try clear c34
    try clear c36
    try clear c37
    try clear c40
    try clear c44
    try clear c45
    try clear c46
    try clear c48
    try clear c49
    try clear c52
    try clear c53
    try clear c54
    try clear c56
    try clear c57
    try clear hcz12_0
    try clear hcz12_1
    try clear hcz12_2
    try clear hcz12_3
    try clear hcz18_0
    try clear hcz18_1
    try clear hcz18_2
    try clear hcz18_3
    try clear hcz20_0
    try clear hcz20_1
    try clear hcz20_2
    try clear hcz20_3
    try clear hcz26_0
    try clear hcz26_1
    try clear hcz26_2
    try clear hcz26_3
    try clear hcz35_0
    try clear hcz35_1
    try clear hcz35_2
    try clear hcz35_3
    try clear hcz38_0
    try clear hcz38_1
    try clear hcz38_2
    try clear hcz38_3
    try clear hcz41_0
    try clear hcz41_1
    try clear hcz41_2
    try clear hcz41_3
    try clear hcz42_0
    try clear hcz42_1
    try clear hcz42_2
    try clear hcz42_3
    try clear hcz47_0
    try clear hcz47_1
    try clear hcz47_2
    try clear hcz47_3
    try clear hcz50_0
    try clear hcz50_1
    try clear hcz50_2
    try clear hcz50_3
    try clear hcz55_0
    try clear hcz55_1
    try clear hcz55_2
    try clear hcz55_3
    try clear hcz58_0
    try clear hcz58_1
    try clear hcz58_2
    try clear hcz58_3
    try clear hcz8_0
    try clear hcz8_1
    try clear hcz8_2
    try clear hcz8_3
    try clear hfz12_0
    try clear hfz12_1
    try clear hfz12_2
    try clear hfz12_3
    try clear hfz18_0
    try clear hfz18_1
    try clear hfz18_2
    try clear hfz18_3
    try clear hfz20_0
    try clear hfz20_1
    try clear hfz20_2
    try clear hfz20_3
    try clear hfz26_0
    try clear hfz26_1
    try clear hfz26_2
    try clear hfz26_3
    try clear hfz35_0
    try clear hfz35_1
    try clear hfz35_2
    try clear hfz35_3
    try clear hfz38_0
    try clear hfz38_1
    try clear hfz38_2
    try clear hfz38_3
    try clear hfz41_0
    try clear hfz41_1
    try clear hfz41_2
    try clear hfz41_3
    try clear hfz42_0
    try clear hfz42_1
    try clear hfz42_2
    try clear hfz42_3
    try clear hfz47_0
    try clear hfz47_1
    try clear hfz47_2
    try clear hfz47_3
    try clear hfz50_0
    try clear hfz50_1
    try clear hfz50_2
    try clear hfz50_3
    try clear hfz55_0
    try clear hfz55_1
    try clear hfz55_2
    try clear hfz55_3
    try clear hfz58_0
    try clear hfz58_1
    try clear hfz58_2
    try clear hfz58_3
    try clear hfz8_0
    try clear hfz8_1
    try clear hfz8_2
    try clear hfz8_3
    obtain ⟨kq, x39_5, rfl, HA, HJ5, HO_195002, HO_203002, HO_211002, BK187, BK194, BK202, BK210, HB⟩ := hcut
    cases kq with
    | zero => exact absurd HA.out (by simp [rialtolaw09_SnapCompacts.j0])
    | succ kj5 =>
      have H := HA.out
      clear HA
      simp only [rialtolaw09_SnapCompacts.j0] at H
      by_cases c60 : x39_5 = true
      · subst c60
        have H1 : (some false) = some r := by rw [if_pos rfl] at H; exact H
        clear H
        have H := H1
        clear H1
        obtain rfl := Option.some.inj H
        go_wp2
        go_ret
        exact ⟨by first | rfl | (simp [errW_none, errW_some] <;> rfl) | (simp [*, errW_none, errW_some] <;> rfl), by repeat (first | (with_reducible first | exact HB.out | apply below_alloc | apply pw_below_drewN | apply below_drew1 | refine below_set ?_ GE187.out | refine below_set ?_ GE194.out | refine below_set ?_ GE202.out | refine below_set ?_ GE210.out) | exact HB.out)⟩
      · replace c60 := Bool.eq_false_iff.mpr c60
        subst c60
        have H1 : (rialtolaw09_SnapCompacts.l0 kj5 0 a0_0 a0_1 l0_2 a0_3 t188 t189 t190 t193 t195 t196 t197 t200) = some r := by rw [if_neg (show ¬ (false = true) by decide)] at H; exact H
        clear H
        have H := H1
        clear H1
        have H' := Aside0.mk H
        clear H
        go_wp2
        go_loopg [10] kj5 (fun kq v10 w' => ∃ (x10_2 : Int) (x195002_2 : List (S33)) (x203002_2 : List (S33)) (x211002_2 : List (S33)) (u195002 : Value) (u203002 : Value) (u211002 : Value), v10 = .int .i64 x10_2 ∧ Aside0 (rialtolaw09_SnapCompacts.l0 kq x10_2 a0_0 a0_1 l0_2 a0_3 t188 t189 x195002_2 t193 t195 t196 x203002_2 t200 = some r) ∧ Aside0 (kq ≤ kj5) ∧ Aside0 (Kd.R k33 33 w' w.heap.size (fun k_ => some k_ ≠ (u203002 : Value).ownBlock ∧ some k_ ≠ (u211002 : Value).ownBlock) u195002 x195002_2) ∧ Aside0 (Kd.R k33 33 w' w.heap.size (fun k_ => some k_ ≠ (u195002 : Value).ownBlock ∧ some k_ ≠ (u211002 : Value).ownBlock) u203002 x203002_2) ∧ Aside0 (Kd.R k33 33 w' w.heap.size (fun k_ => some k_ ≠ (u195002 : Value).ownBlock ∧ some k_ ≠ (u203002 : Value).ownBlock) u211002 x211002_2) ∧ Aside0 (w'.heap[gb187]? = some (.cells #[.int .i64 a0_0, .int .i64 a0_1, (.slice A0_2 l0_2.length c0_2), .int .i64 a0_3] 26 (0, 0))) ∧ Aside0 (w'.heap[gb194]? = some (.cells #[.int .i64 t188, .int .i64 t189, u195002, .int .i64 t193] 26 (0, 0))) ∧ Aside0 (w'.heap[gb202]? = some (.cells #[.int .i64 t195, .int .i64 t196, u203002, .int .i64 t200] 26 (0, 0))) ∧ Aside0 (w'.heap[gb210]? = some (.cells #[.int .i64 t203, .int .i64 t204, u211002, .int .i64 t208] 26 (0, 0))) ∧ Aside0 (Below w.heap.size w w'))
        case atStart => exact ⟨(0), (t190), (t197), (t205), (.slice Ao13 t190.length co13), (.slice Ao19 t197.length co19), (.slice Ao27 t205.length co27), (by first | rfl | (simp; done) | (simp [*]; done)), H', ⟨Nat.le_refl _⟩, ⟨by (with_reducible repeat (first | apply Kd.R_alloc | apply Kd.R_drewN | apply Kd.R_drew)); exact HO_195002.out⟩, ⟨by (with_reducible repeat (first | apply Kd.R_alloc | apply Kd.R_drewN | apply Kd.R_drew)); exact HO_203002.out⟩, ⟨by (with_reducible repeat (first | apply Kd.R_alloc | apply Kd.R_drewN | apply Kd.R_drew)); exact HO_211002.out⟩, ⟨by (with_reducible repeat (first | refine blk_drewN ?_ _ | refine blk_drew ?_ | refine blk_alloc ?_ _)); exact BK187.out⟩, ⟨by (with_reducible repeat (first | refine blk_drewN ?_ _ | refine blk_drew ?_ | refine blk_alloc ?_ _)); exact BK194.out⟩, ⟨by (with_reducible repeat (first | refine blk_drewN ?_ _ | refine blk_drew ?_ | refine blk_alloc ?_ _)); exact BK202.out⟩, ⟨by (with_reducible repeat (first | refine blk_drewN ?_ _ | refine blk_drew ?_ | refine blk_alloc ?_ _)); exact BK210.out⟩, ⟨by repeat (first | (with_reducible first | exact HB.out | apply below_alloc | apply pw_below_drewN | apply below_drew1 | refine below_set ?_ GE187.out | refine below_set ?_ GE194.out | refine below_set ?_ GE202.out | refine below_set ?_ GE210.out) | exact HB.out)⟩⟩
        case round =>
          clear H'
          try clear c1
          try clear c2
          try clear p2
          try clear c3
          try clear c4
          try clear c5
          try clear c6
          try clear c11
          try clear c13
          try clear c14
          try clear c15
          try clear c16
          try clear c17
          try clear c23
          try clear c24
          try clear c25
          try clear c29
          try clear c30
          try clear c30b0
          try clear c30b1
          try clear c32
          try clear c33
          try clear c34
          try clear c36
          try clear c37
          try clear c40
          try clear c44
          try clear c45
          try clear c46
          try clear c48
          try clear c49
          try clear c52
          try clear c53
          try clear c54
          try clear c56
          try clear c57
          try clear c60
          try clear hcz12_0
          try clear hcz12_1
          try clear hcz12_2
          try clear hcz12_3
          try clear hcz18_0
          try clear hcz18_1
          try clear hcz18_2
          try clear hcz18_3
          try clear hcz20_0
          try clear hcz20_1
          try clear hcz20_2
          try clear hcz20_3
          try clear hcz26_0
          try clear hcz26_1
          try clear hcz26_2
          try clear hcz26_3
          try clear hcz35_0
          try clear hcz35_1
          try clear hcz35_2
          try clear hcz35_3
          try clear hcz38_0
          try clear hcz38_1
          try clear hcz38_2
          try clear hcz38_3
          try clear hcz41_0
          try clear hcz41_1
          try clear hcz41_2
          try clear hcz41_3
          try clear hcz42_0
          try clear hcz42_1
          try clear hcz42_2
          try clear hcz42_3
          try clear hcz47_0
          try clear hcz47_1
          try clear hcz47_2
          try clear hcz47_3
          try clear hcz50_0
          try clear hcz50_1
          try clear hcz50_2
          try clear hcz50_3
          try clear hcz55_0
          try clear hcz55_1
          try clear hcz55_2
          try clear hcz55_3
          try clear hcz58_0
          try clear hcz58_1
          try clear hcz58_2
          try clear hcz58_3
          try clear hcz8_0
          try clear hcz8_1
          try clear hcz8_2
          try clear hcz8_3
          try clear hfz12_0
          try clear hfz12_1
          try clear hfz12_2
          try clear hfz12_3
          try clear hfz18_0
          try clear hfz18_1
          try clear hfz18_2
          try clear hfz18_3
          try clear hfz20_0
          try clear hfz20_1
          try clear hfz20_2
          try clear hfz20_3
          try clear hfz26_0
          try clear hfz26_1
          try clear hfz26_2
          try clear hfz26_3
          try clear hfz35_0
          try clear hfz35_1
          try clear hfz35_2
          try clear hfz35_3
          try clear hfz38_0
          try clear hfz38_1
          try clear hfz38_2
          try clear hfz38_3
          try clear hfz41_0
          try clear hfz41_1
          try clear hfz41_2
          try clear hfz41_3
          try clear hfz42_0
          try clear hfz42_1
          try clear hfz42_2
          try clear hfz42_3
          try clear hfz47_0
          try clear hfz47_1
          try clear hfz47_2
          try clear hfz47_3
          try clear hfz50_0
          try clear hfz50_1
          try clear hfz50_2
          try clear hfz50_3
          try clear hfz55_0
          try clear hfz55_1
          try clear hfz55_2
          try clear hfz55_3
          try clear hfz58_0
          try clear hfz58_1
          try clear hfz58_2
          try clear hfz58_3
          try clear hfz8_0
          try clear hfz8_1
          try clear hfz8_2
          try clear hfz8_3
          try clear p2
          obtain ⟨x10_2, x195002_2, x203002_2, x211002_2, u195002, u203002, u211002, rfl, HA, HK2, HO_195002, HO_203002, HO_211002, BK187, BK194, BK202, BK210, HB⟩ := hrel
          cases gk with
          | zero => exact absurd HA.out (by simp [rialtolaw09_SnapCompacts.l0])
          | succ k2 =>
            have H := HA.out
            clear HA
            simp only [rialtolaw09_SnapCompacts.l0] at H
            by_cases c61 : x10_2 < (x203002_2.length : Int)
            · rw [if_pos c61] at H
              have c61b0 : decide (x10_2 < (x203002_2.length : Int)) = true := decide_eq_true c61
              clear c61
              by_cases c62 : 0 ≤ x10_2
              · rw [if_pos c62] at H
                have c62b0 : decide (0 ≤ x10_2) = true := decide_eq_true c62
                clear c62
                obtain ⟨y213, hy213⟩ : ∃ y_ : List (S33), y_ = (x203002_2.set (x10_2 : Int).toNat (⟨(rd_T33 x203002_2 x10_2).f0, (rd_T33 x203002_2 x10_2).f1, (⟨#[119, 114, 105, 116, 116, 101, 110]⟩ : ByteArray)⟩ : S33)) := ⟨_, rfl⟩
                replace H : (rialtolaw09_SnapCompacts.l0 k2 (wrap64 (x10_2 + 1)) a0_0 a0_1 l0_2 a0_3 t188 t189 x195002_2 t193 t195 t196 y213 t200) = some r := by first | (rw [hy213]; with_reducible exact H) | (have H2_ := (Option.bind_some _ _).symm.trans H; rw [hy213]; with_reducible exact H2_) | (have H2_ := (Option.bind_some _ _).symm.trans H; with_reducible exact H2_) | with_reducible exact H | (rw [hy213]; exact H) | exact H
                have Ny213 := Aside0.mk hy213
                clear hy213
                have H' := Aside0.mk H
                clear H
                have hnb64 := NB202_187.out
                have hnc64 := NB187_202.out
                have hnb65 := NB202_194.out
                have hnc65 := NB194_202.out
                have hnb66 := NB202_210.out
                have hnc66 := NB210_202.out
                have hcz67_0 : wr.cell? ⟨gb202, 0, none⟩ = some (.int .i64 t195) := (blk_cell BK202.out 0).trans rfl
                have hcz67_1 : wr.cell? ⟨gb202, 1, none⟩ = some (.int .i64 t196) := (blk_cell BK202.out 1).trans rfl
                have hcz67_2 : wr.cell? ⟨gb202, 2, none⟩ = some (u203002) := (blk_cell BK202.out 2).trans rfl
                have hcz67_3 : wr.cell? ⟨gb202, 3, none⟩ = some (.int .i64 t200) := (blk_cell BK202.out 3).trans rfl
                have hfz67_0 := blk_frozen BK202.out 0
                have hfz67_1 := blk_frozen BK202.out 1
                have hfz67_2 := blk_frozen BK202.out 2
                have hfz67_3 := blk_frozen BK202.out 3
                obtain ⟨Ao68, co68, eo68⟩ := Kd.R_slice HO_203002.out
                subst eo68
                have p63 : 0 ≤ (x10_2 : Int) := of_decide_eq_true (by first | (with_reducible assumption) | assumption)
                have q63 : (x10_2 : Int) < ((x203002_2.length : Int) : Int) := of_decide_eq_true (by first | (with_reducible assumption) | assumption)
                obtain ⟨go63, co63, eo63, gb63, gl63, cl63, HG63⟩ := Kd.R_form HO_203002.out (by omega)
                (first | cases eo63 | (injection eo63 with ea_ en_ ec_; (first | subst ea_ | (injection ea_ with ea_; subst ea_)); subst ec_; clear en_))
                have GB63 := Aside0.mk gb63
                have GG63 := Aside0.mk HG63
                clear gb63 gl63 HG63
                obtain ⟨ce63, hcl63, hM63, hcc63, hfr63⟩ := Kd.R_elem HO_203002.out z33 (x10_2 : Int) p63 q63
                obtain rfl := k33_openM hM63
                have hx63_0 : wr.cell? ⟨go63, (x10_2 : Int).toNat * 3, none⟩ = some (.int .i64 ((rd_T33 x203002_2 x10_2).f0)) := hcc63 0 _ rfl
                have hx63_1 : wr.cell? ⟨go63, (x10_2 : Int).toNat * 3 + 1, none⟩ = some (.int .i64 ((rd_T33 x203002_2 x10_2).f1)) := hcc63 1 _ rfl
                have hx63_2 : wr.cell? ⟨go63, (x10_2 : Int).toNat * 3 + 2, none⟩ = some (.string ((rd_T33 x203002_2 x10_2).f2)) := hcc63 2 _ rfl
                have hf63_0 : wr.frozen? ⟨go63, (x10_2 : Int).toNat * 3, none⟩ = false := hfr63 0
                have hf63_1 : wr.frozen? ⟨go63, (x10_2 : Int).toNat * 3 + 1, none⟩ = false := hfr63 1
                have hf63_2 : wr.frozen? ⟨go63, (x10_2 : Int).toNat * 3 + 2, none⟩ = false := hfr63 2
                clear hcl63 hcc63 hfr63 hM63
                replace p63 := eq_true p63
                replace q63 := eq_true q63
                have HX69 := Aside0.mk (show Kd.R k33 33 wr w.heap.size (fun k_ => some k_ ≠ (u195002 : Value).ownBlock ∧ some k_ ≠ (u211002 : Value).ownBlock) (.slice (some ⟨go63, 0, none⟩) x203002_2.length co68) x203002_2 from (by (with_reducible repeat (first | apply Kd.R_alloc | apply Kd.R_drewN | apply Kd.R_drew)); exact HO_203002.out))
                obtain ⟨ce69, hcl69, hM69, hcc69, hfr69⟩ := Kd.R_elem HX69.out z33 (x10_2 : Int) (of_decide_eq_true (by first | (with_reducible assumption) | assumption)) (by have h_ : (x10_2 : Int) < ((x203002_2.length : Int) : Int) := of_decide_eq_true (by first | (with_reducible assumption) | assumption); first | exact h_ | (have e_ := (Kd.R_reads' HO_203002.out).1; omega) | simpa using h_)
                obtain rfl := k33_openM hM69
                have HP69 := Kd.R_seg HX69.out (x10_2 : Int) (of_decide_eq_true (by first | (with_reducible assumption) | assumption)) (by have h_ : (x10_2 : Int) < ((x203002_2.length : Int) : Int) := of_decide_eq_true (by first | (with_reducible assumption) | assumption); first | exact h_ | (have e_ := (Kd.R_reads' HO_203002.out).1; omega) | simpa using h_) (seg := [.string (⟨#[119, 114, 105, 116, 116, 101, 110]⟩ : ByteArray)]) (j := 2) hcl69 hcc69 (show 3 ≤ 3 from by decide) (x' := (⟨(rd_T33 x203002_2 x10_2).f0, (rd_T33 x203002_2 x10_2).f1, (⟨#[119, 114, 105, 116, 116, 101, 110]⟩ : ByteArray)⟩ : S33)) (k33_mkM _ _ _ (⟨(rd_T33 x203002_2 x10_2).f0, (rd_T33 x203002_2 x10_2).f1, (⟨#[119, 114, 105, 116, 116, 101, 110]⟩ : ByteArray)⟩ : S33) ) (fun _ hk => hk)
                have hx69_2 := hcc69 2 _ rfl
                (try simp only [show (k33).sz = 3 from rfl, Nat.mul_one, Nat.add_zero] at hx69_2)
                have hf69_2 := hfr69 2
                (try simp only [show (k33).sz = 3 from rfl, Nat.mul_one, Nat.add_zero] at hf69_2)
                clear hcl69 hcc69 hfr69 hM69
                go_wp2_with (first | ((with_reducible refine gate_store (t := 9) (p := 51) rfl ?_); refine store_event (t := 9) (p := 51) (v := ?vo_w70) (w1 := (wr.setCell ⟨go63, (x10_2 : Int).toNat * 3 + 2, none⟩ (.string (⟨#[119, 114, 105, 116, 116, 101, 110]⟩ : ByteArray)))) ?hg ?ho ?hn ?hr ?_; (case ho => rfl); (case hg => rfl); (case hn => rfl); (case hr => first | (go_simp; done) | (go_simp; rfl)); intro w70 hw; have hg : wr.grownBy w70 (some go63) := (by rw [hw]; exact HP69.2); have hp_ : Kd.R k33 33 w70 w.heap.size (fun k_ => some k_ ≠ (u195002 : Value).ownBlock ∧ some k_ ≠ (u211002 : Value).ownBlock) (.slice (some ⟨go63, 0, none⟩) x203002_2.length co68) y213 := (by rw [hw, Ny213.out]; exact HP69.1); clear HP69; have n0_ := Aside0.mk (Kd.R_after (v := (.slice (some ⟨go63, 0, none⟩) x203002_2.length co68)) (v1 := (.slice (some ⟨go63, 0, none⟩) x203002_2.length co68)) (ok := (fun k_ => some k_ ≠ (u211002 : Value).ownBlock)) (by (with_reducible repeat (first | apply Kd.R_alloc | apply Kd.R_drewN | apply Kd.R_drew)); exact Kd.R_mono HO_195002.out (fun _ hk => ⟨hk.2, hk.1⟩)) hg (.inl rfl)); have n1_ := Aside0.mk (hp_); have n2_ := Aside0.mk (Kd.R_after (v := (.slice (some ⟨go63, 0, none⟩) x203002_2.length co68)) (v1 := (.slice (some ⟨go63, 0, none⟩) x203002_2.length co68)) (ok := (fun k_ => some k_ ≠ (u195002 : Value).ownBlock)) (by (with_reducible repeat (first | apply Kd.R_alloc | apply Kd.R_drewN | apply Kd.R_drew)); exact HO_211002.out) hg (.inl rfl)); have n3_ := Aside0.mk (blk_grown (g := gb187) (o := .cells #[.int .i64 a0_0, .int .i64 a0_1, .slice A0_2 l0_2.length c0_2, .int .i64 a0_3] 26 (0, 0)) (by (with_reducible repeat (first | refine blk_drewN ?_ _ | refine blk_drew ?_ | refine blk_alloc ?_ _)); exact BK187.out) hg (Kd.R_ne HO_203002.out BK187.out (by decide))); have n4_ := Aside0.mk (blk_grown (g := gb194) (o := .cells #[.int .i64 t188, .int .i64 t189, u195002, .int .i64 t193] 26 (0, 0)) (by (with_reducible repeat (first | refine blk_drewN ?_ _ | refine blk_drew ?_ | refine blk_alloc ?_ _)); exact BK194.out) hg (Kd.R_ne HO_203002.out BK194.out (by decide))); have n5_ := Aside0.mk (blk_grown (g := gb202) (o := .cells #[.int .i64 t195, .int .i64 t196, .slice (some ⟨go63, 0, none⟩) x203002_2.length co68, .int .i64 t200] 26 (0, 0)) (by (with_reducible repeat (first | refine blk_drewN ?_ _ | refine blk_drew ?_ | refine blk_alloc ?_ _)); exact BK202.out) hg (Kd.R_ne HO_203002.out BK202.out (by decide))); have n6_ := Aside0.mk (blk_grown (g := gb210) (o := .cells #[.int .i64 t203, .int .i64 t204, u211002, .int .i64 t208] 26 (0, 0)) (by (with_reducible repeat (first | refine blk_drewN ?_ _ | refine blk_drew ?_ | refine blk_alloc ?_ _)); exact BK210.out) hg (Kd.R_ne HO_203002.out BK210.out (by decide))); have n7_ := Aside0.mk ((by rw [hw]; exact below_set (HB.out) GB63.out : Below w.heap.size w w70)); clear HO_195002; clear HO_203002; clear HO_211002; clear BK187; clear BK194; clear BK202; clear BK210; clear HB; have HO_195002 := n0_; have HO_203002 := n1_; have HO_211002 := n2_; have BK187 := n3_; have BK194 := n4_; have BK202 := n5_; have BK210 := n6_; have HB := n7_; clear n0_ n1_ n2_ n3_ n4_ n5_ n6_ n7_; clear hg hw hp_))
                go_roundg k2
                case measure => have := HJ5.out; have := HK2.out; omega
                case rel => exact ⟨(wrap64 (x10_2 + 1)), (x195002_2), (y213), (x211002_2), (u195002), (.slice (some ⟨go63, 0, none⟩) x203002_2.length co68), (u211002), (by first | rfl | (simp; done) | (simp [*]; done)), H', ⟨by have := HJ5.out; have := HK2.out; omega⟩, ⟨by (with_reducible repeat (first | apply Kd.R_alloc | apply Kd.R_drewN | apply Kd.R_drew)); exact Kd.R_mono HO_195002.out (fun _ hk => ⟨hk.2, hk.1⟩)⟩, ⟨by (with_reducible repeat (first | apply Kd.R_alloc | apply Kd.R_drewN | apply Kd.R_drew)); exact HO_203002.out⟩, ⟨by (with_reducible repeat (first | apply Kd.R_alloc | apply Kd.R_drewN | apply Kd.R_drew)); exact HO_211002.out⟩, ⟨by (with_reducible repeat (first | refine blk_drewN ?_ _ | refine blk_drew ?_ | refine blk_alloc ?_ _)); exact BK187.out⟩, ⟨by (with_reducible repeat (first | refine blk_drewN ?_ _ | refine blk_drew ?_ | refine blk_alloc ?_ _)); exact BK194.out⟩, ⟨by (with_reducible repeat (first | refine blk_drewN ?_ _ | refine blk_drew ?_ | refine blk_alloc ?_ _)); exact BK202.out⟩, ⟨by (with_reducible repeat (first | refine blk_drewN ?_ _ | refine blk_drew ?_ | refine blk_alloc ?_ _)); exact BK210.out⟩, ⟨by repeat (first | (with_reducible first | exact HB.out | apply below_alloc | apply pw_below_drewN | apply below_drew1 | refine below_set ?_ GE187.out | refine below_set ?_ GE194.out | refine below_set ?_ GE202.out | refine below_set ?_ GE210.out) | exact HB.out)⟩⟩
              · rw [if_neg c62] at H
                exact absurd H (by simp)
            · rw [if_neg c61] at H
              have c61b0 : decide (x10_2 < (x203002_2.length : Int)) = false := decide_eq_false c61
              clear c61
              replace H := Option.bind_eq_some_iff.mp H
              obtain ⟨t214, A710, H⟩ := H
              replace H : (if t214 = true then ((rialtolaw09_live.f k2).bind fun t215 => (some t215)) else (some false)) = some r := H
              have A71 := Aside0.mk A710
              clear A710
              by_cases c72 : t214 = true
              · subst c72
                have H1 : ((rialtolaw09_live.f k2).bind fun t215 => (some t215)) = some r := by rw [if_pos rfl] at H; exact H
                clear H
                have H := H1
                clear H1
                replace H := Option.bind_eq_some_iff.mp H
                obtain ⟨t215, A730, H⟩ := H
                replace H : (some t215) = some r := H
                have A73 := Aside0.mk A730
                clear A730
                obtain rfl := Option.some.inj H
                have hnb74 := NB202_187.out
                have hnc74 := NB187_202.out
                have hnb75 := NB202_194.out
                have hnc75 := NB194_202.out
                have hnb76 := NB202_210.out
                have hnc76 := NB210_202.out
                have hcz77_0 : wr.cell? ⟨gb202, 0, none⟩ = some (.int .i64 t195) := (blk_cell BK202.out 0).trans rfl
                have hcz77_1 : wr.cell? ⟨gb202, 1, none⟩ = some (.int .i64 t196) := (blk_cell BK202.out 1).trans rfl
                have hcz77_2 : wr.cell? ⟨gb202, 2, none⟩ = some (u203002) := (blk_cell BK202.out 2).trans rfl
                have hcz77_3 : wr.cell? ⟨gb202, 3, none⟩ = some (.int .i64 t200) := (blk_cell BK202.out 3).trans rfl
                have hfz77_0 := blk_frozen BK202.out 0
                have hfz77_1 := blk_frozen BK202.out 1
                have hfz77_2 := blk_frozen BK202.out 2
                have hfz77_3 := blk_frozen BK202.out 3
                obtain ⟨Ao78, co78, eo78⟩ := Kd.R_slice HO_203002.out
                subst eo78
                have hnb79 := NB194_187.out
                have hnc79 := NB187_194.out
                have hnb80 := NB194_210.out
                have hnc80 := NB210_194.out
                have hcz81_0 : wr.cell? ⟨gb194, 0, none⟩ = some (.int .i64 t188) := (blk_cell BK194.out 0).trans rfl
                have hcz81_1 : wr.cell? ⟨gb194, 1, none⟩ = some (.int .i64 t189) := (blk_cell BK194.out 1).trans rfl
                have hcz81_2 : wr.cell? ⟨gb194, 2, none⟩ = some (u195002) := (blk_cell BK194.out 2).trans rfl
                have hcz81_3 : wr.cell? ⟨gb194, 3, none⟩ = some (.int .i64 t193) := (blk_cell BK194.out 3).trans rfl
                have hfz81_0 := blk_frozen BK194.out 0
                have hfz81_1 := blk_frozen BK194.out 1
                have hfz81_2 := blk_frozen BK194.out 2
                have hfz81_3 := blk_frozen BK194.out 3
                have hnb82 := NB187_210.out
                have hnc82 := NB210_187.out
                have hcz83_0 : wr.cell? ⟨gb187, 0, none⟩ = some (.int .i64 a0_0) := (blk_cell BK187.out 0).trans rfl
                have hcz83_1 : wr.cell? ⟨gb187, 1, none⟩ = some (.int .i64 a0_1) := (blk_cell BK187.out 1).trans rfl
                have hcz83_2 : wr.cell? ⟨gb187, 2, none⟩ = some (.slice A0_2 l0_2.length c0_2) := (blk_cell BK187.out 2).trans rfl
                have hcz83_3 : wr.cell? ⟨gb187, 3, none⟩ = some (.int .i64 a0_3) := (blk_cell BK187.out 3).trans rfl
                have hfz83_0 := blk_frozen BK187.out 0
                have hfz83_1 := blk_frozen BK187.out 1
                have hfz83_2 := blk_frozen BK187.out 2
                have hfz83_3 := blk_frozen BK187.out 3
                obtain ⟨Ao84, co84, eo84⟩ := Kd.R_slice HO_195002.out
                subst eo84
                go_wp2_with (first | ((with_reducible refine gate_callee (f := 16) rfl ?_); refine goesL_ (some 54) rfl rfl Try.func16 (by kernel_rfl) rfl #[.agg #[.int .i64 t188, .int .i64 t189, .slice Ao84 x195002_2.length co84, .int .i64 t193], .agg #[.int .i64 a0_0, .int .i64 a0_1, .slice A0_2 l0_2.length c0_2, .int .i64 a0_3]] rfl (by (try simp only [List.map_toArray, List.map_cons, List.map_nil]); first | done | rfl | (simp only [List.length_drop, List.length_take]; rfl)) ?_; (with_reducible refine (rialtoref08_Same.calls k2 t188 t189 _ _ x195002_2 t193 a0_0 a0_1 _ _ l0_2 a0_3 true _ ?side1 ?side2 ?side3 ?side4 A71.out).mono ?_); (case side1 => repeat (first | exact (Kd.R_reads' HO_195002.out).2.2 | (with_reducible refine Kd.C_alloc ?_ _) | (with_reducible refine Kd.C_drewN ?_ _) | (with_reducible refine Kd.C_drew ?_))); (case side2 => exact (Kd.R_reads' HO_195002.out).2.1); (case side3 => repeat (first | exact (Kd.C_below HR0_2.out HB.out) | (with_reducible refine Kd.C_alloc ?_ _) | (with_reducible refine Kd.C_drewN ?_ _) | (with_reducible refine Kd.C_drew ?_))); (case side4 => exact HC0_2.out); rintro e w85 ⟨rfl, hb⟩; refine ⟨_, rfl, ?_⟩; have n0_ := Aside0.mk (Kd.R_below (by (with_reducible repeat (first | apply Kd.R_alloc | apply Kd.R_drewN | apply Kd.R_drew)); exact HO_195002.out) hb); have n1_ := Aside0.mk (Kd.R_below (by (with_reducible repeat (first | apply Kd.R_alloc | apply Kd.R_drewN | apply Kd.R_drew)); exact HO_203002.out) hb); have n2_ := Aside0.mk (Kd.R_below (by (with_reducible repeat (first | apply Kd.R_alloc | apply Kd.R_drewN | apply Kd.R_drew)); exact HO_211002.out) hb); have n3_ := Aside0.mk (blk_below (g := gb187) (o := .cells #[.int .i64 a0_0, .int .i64 a0_1, .slice A0_2 l0_2.length c0_2, .int .i64 a0_3] 26 (0, 0)) (by (with_reducible repeat (first | refine blk_drewN ?_ _ | refine blk_drew ?_ | refine blk_alloc ?_ _)); exact BK187.out) hb); have n4_ := Aside0.mk (blk_below (g := gb194) (o := .cells #[.int .i64 t188, .int .i64 t189, .slice Ao84 x195002_2.length co84, .int .i64 t193] 26 (0, 0)) (by (with_reducible repeat (first | refine blk_drewN ?_ _ | refine blk_drew ?_ | refine blk_alloc ?_ _)); exact BK194.out) hb); have n5_ := Aside0.mk (blk_below (g := gb202) (o := .cells #[.int .i64 t195, .int .i64 t196, .slice Ao78 x203002_2.length co78, .int .i64 t200] 26 (0, 0)) (by (with_reducible repeat (first | refine blk_drewN ?_ _ | refine blk_drew ?_ | refine blk_alloc ?_ _)); exact BK202.out) hb); have n6_ := Aside0.mk (blk_below (g := gb210) (o := .cells #[.int .i64 t203, .int .i64 t204, u211002, .int .i64 t208] 26 (0, 0)) (by (with_reducible repeat (first | refine blk_drewN ?_ _ | refine blk_drew ?_ | refine blk_alloc ?_ _)); exact BK210.out) hb); have n7_ := Aside0.mk (below_step (by repeat (first | (with_reducible first | exact HB.out | apply below_alloc | apply pw_below_drewN | apply below_drew1 | refine below_set ?_ GE187.out | refine below_set ?_ GE194.out | refine below_set ?_ GE202.out | refine below_set ?_ GE210.out) | exact HB.out)) hb); clear HO_195002; clear HO_203002; clear HO_211002; clear BK187; clear BK194; clear BK202; clear BK210; clear HB; have HO_195002 := n0_; have HO_203002 := n1_; have HO_211002 := n2_; have BK187 := n3_; have BK194 := n4_; have BK202 := n5_; have BK210 := n6_; have HB := n7_; clear n0_ n1_ n2_ n3_ n4_ n5_ n6_ n7_; (try clear hb); (try clear hb2); (try clear hk); (try clear hi)) | (go_at_call 17; (with_reducible refine (rialtolaw09_live.calls k2  t215 _ A73.out).mono ?_); rintro e w86 ⟨rfl, hb⟩; have n0_ := Aside0.mk (Kd.R_below (by (with_reducible repeat (first | apply Kd.R_alloc | apply Kd.R_drewN | apply Kd.R_drew)); exact HO_195002.out) hb); have n1_ := Aside0.mk (Kd.R_below (by (with_reducible repeat (first | apply Kd.R_alloc | apply Kd.R_drewN | apply Kd.R_drew)); exact HO_203002.out) hb); have n2_ := Aside0.mk (Kd.R_below (by (with_reducible repeat (first | apply Kd.R_alloc | apply Kd.R_drewN | apply Kd.R_drew)); exact HO_211002.out) hb); have n3_ := Aside0.mk (blk_below (g := gb187) (o := .cells #[.int .i64 a0_0, .int .i64 a0_1, .slice A0_2 l0_2.length c0_2, .int .i64 a0_3] 26 (0, 0)) (by (with_reducible repeat (first | refine blk_drewN ?_ _ | refine blk_drew ?_ | refine blk_alloc ?_ _)); exact BK187.out) hb); have n4_ := Aside0.mk (blk_below (g := gb194) (o := .cells #[.int .i64 t188, .int .i64 t189, .slice Ao84 x195002_2.length co84, .int .i64 t193] 26 (0, 0)) (by (with_reducible repeat (first | refine blk_drewN ?_ _ | refine blk_drew ?_ | refine blk_alloc ?_ _)); exact BK194.out) hb); have n5_ := Aside0.mk (blk_below (g := gb202) (o := .cells #[.int .i64 t195, .int .i64 t196, .slice Ao78 x203002_2.length co78, .int .i64 t200] 26 (0, 0)) (by (with_reducible repeat (first | refine blk_drewN ?_ _ | refine blk_drew ?_ | refine blk_alloc ?_ _)); exact BK202.out) hb); have n6_ := Aside0.mk (blk_below (g := gb210) (o := .cells #[.int .i64 t203, .int .i64 t204, u211002, .int .i64 t208] 26 (0, 0)) (by (with_reducible repeat (first | refine blk_drewN ?_ _ | refine blk_drew ?_ | refine blk_alloc ?_ _)); exact BK210.out) hb); have n7_ := Aside0.mk (below_step (by repeat (first | (with_reducible first | exact HB.out | apply below_alloc | apply pw_below_drewN | apply below_drew1 | refine below_set ?_ GE187.out | refine below_set ?_ GE194.out | refine below_set ?_ GE202.out | refine below_set ?_ GE210.out) | exact HB.out)) hb); clear HO_195002; clear HO_203002; clear HO_211002; clear BK187; clear BK194; clear BK202; clear BK210; clear HB; have HO_195002 := n0_; have HO_203002 := n1_; have HO_211002 := n2_; have BK187 := n3_; have BK194 := n4_; have BK202 := n5_; have BK210 := n6_; have HB := n7_; clear n0_ n1_ n2_ n3_ n4_ n5_ n6_ n7_; (try clear hb); (try clear hb2); (try clear hk); (try clear hi)))
                go_ret
                exact ⟨by first | rfl | (simp [errW_none, errW_some] <;> rfl) | (simp [*, errW_none, errW_some] <;> rfl), by repeat (first | (with_reducible first | exact HB.out | apply below_alloc | apply pw_below_drewN | apply below_drew1 | refine below_set ?_ GE187.out | refine below_set ?_ GE194.out | refine below_set ?_ GE202.out | refine below_set ?_ GE210.out) | exact HB.out)⟩
              · replace c72 := Bool.eq_false_iff.mpr c72
                subst c72
                have H1 : (some false) = some r := by rw [if_neg (show ¬ (false = true) by decide)] at H; exact H
                clear H
                have H := H1
                clear H1
                obtain rfl := Option.some.inj H
                have hnb87 := NB202_187.out
                have hnc87 := NB187_202.out
                have hnb88 := NB202_194.out
                have hnc88 := NB194_202.out
                have hnb89 := NB202_210.out
                have hnc89 := NB210_202.out
                have hcz90_0 : wr.cell? ⟨gb202, 0, none⟩ = some (.int .i64 t195) := (blk_cell BK202.out 0).trans rfl
                have hcz90_1 : wr.cell? ⟨gb202, 1, none⟩ = some (.int .i64 t196) := (blk_cell BK202.out 1).trans rfl
                have hcz90_2 : wr.cell? ⟨gb202, 2, none⟩ = some (u203002) := (blk_cell BK202.out 2).trans rfl
                have hcz90_3 : wr.cell? ⟨gb202, 3, none⟩ = some (.int .i64 t200) := (blk_cell BK202.out 3).trans rfl
                have hfz90_0 := blk_frozen BK202.out 0
                have hfz90_1 := blk_frozen BK202.out 1
                have hfz90_2 := blk_frozen BK202.out 2
                have hfz90_3 := blk_frozen BK202.out 3
                obtain ⟨Ao91, co91, eo91⟩ := Kd.R_slice HO_203002.out
                subst eo91
                have hnb92 := NB194_187.out
                have hnc92 := NB187_194.out
                have hnb93 := NB194_210.out
                have hnc93 := NB210_194.out
                have hcz94_0 : wr.cell? ⟨gb194, 0, none⟩ = some (.int .i64 t188) := (blk_cell BK194.out 0).trans rfl
                have hcz94_1 : wr.cell? ⟨gb194, 1, none⟩ = some (.int .i64 t189) := (blk_cell BK194.out 1).trans rfl
                have hcz94_2 : wr.cell? ⟨gb194, 2, none⟩ = some (u195002) := (blk_cell BK194.out 2).trans rfl
                have hcz94_3 : wr.cell? ⟨gb194, 3, none⟩ = some (.int .i64 t193) := (blk_cell BK194.out 3).trans rfl
                have hfz94_0 := blk_frozen BK194.out 0
                have hfz94_1 := blk_frozen BK194.out 1
                have hfz94_2 := blk_frozen BK194.out 2
                have hfz94_3 := blk_frozen BK194.out 3
                have hnb95 := NB187_210.out
                have hnc95 := NB210_187.out
                have hcz96_0 : wr.cell? ⟨gb187, 0, none⟩ = some (.int .i64 a0_0) := (blk_cell BK187.out 0).trans rfl
                have hcz96_1 : wr.cell? ⟨gb187, 1, none⟩ = some (.int .i64 a0_1) := (blk_cell BK187.out 1).trans rfl
                have hcz96_2 : wr.cell? ⟨gb187, 2, none⟩ = some (.slice A0_2 l0_2.length c0_2) := (blk_cell BK187.out 2).trans rfl
                have hcz96_3 : wr.cell? ⟨gb187, 3, none⟩ = some (.int .i64 a0_3) := (blk_cell BK187.out 3).trans rfl
                have hfz96_0 := blk_frozen BK187.out 0
                have hfz96_1 := blk_frozen BK187.out 1
                have hfz96_2 := blk_frozen BK187.out 2
                have hfz96_3 := blk_frozen BK187.out 3
                obtain ⟨Ao97, co97, eo97⟩ := Kd.R_slice HO_195002.out
                subst eo97
                go_wp2_with (first | ((with_reducible refine gate_callee (f := 16) rfl ?_); refine goesL_ (some 54) rfl rfl Try.func16 (by kernel_rfl) rfl #[.agg #[.int .i64 t188, .int .i64 t189, .slice Ao97 x195002_2.length co97, .int .i64 t193], .agg #[.int .i64 a0_0, .int .i64 a0_1, .slice A0_2 l0_2.length c0_2, .int .i64 a0_3]] rfl (by (try simp only [List.map_toArray, List.map_cons, List.map_nil]); first | done | rfl | (simp only [List.length_drop, List.length_take]; rfl)) ?_; (with_reducible refine (rialtoref08_Same.calls k2 t188 t189 _ _ x195002_2 t193 a0_0 a0_1 _ _ l0_2 a0_3 false _ ?side1 ?side2 ?side3 ?side4 A71.out).mono ?_); (case side1 => repeat (first | exact (Kd.R_reads' HO_195002.out).2.2 | (with_reducible refine Kd.C_alloc ?_ _) | (with_reducible refine Kd.C_drewN ?_ _) | (with_reducible refine Kd.C_drew ?_))); (case side2 => exact (Kd.R_reads' HO_195002.out).2.1); (case side3 => repeat (first | exact (Kd.C_below HR0_2.out HB.out) | (with_reducible refine Kd.C_alloc ?_ _) | (with_reducible refine Kd.C_drewN ?_ _) | (with_reducible refine Kd.C_drew ?_))); (case side4 => exact HC0_2.out); rintro e w98 ⟨rfl, hb⟩; refine ⟨_, rfl, ?_⟩; have n0_ := Aside0.mk (Kd.R_below (by (with_reducible repeat (first | apply Kd.R_alloc | apply Kd.R_drewN | apply Kd.R_drew)); exact HO_195002.out) hb); have n1_ := Aside0.mk (Kd.R_below (by (with_reducible repeat (first | apply Kd.R_alloc | apply Kd.R_drewN | apply Kd.R_drew)); exact HO_203002.out) hb); have n2_ := Aside0.mk (Kd.R_below (by (with_reducible repeat (first | apply Kd.R_alloc | apply Kd.R_drewN | apply Kd.R_drew)); exact HO_211002.out) hb); have n3_ := Aside0.mk (blk_below (g := gb187) (o := .cells #[.int .i64 a0_0, .int .i64 a0_1, .slice A0_2 l0_2.length c0_2, .int .i64 a0_3] 26 (0, 0)) (by (with_reducible repeat (first | refine blk_drewN ?_ _ | refine blk_drew ?_ | refine blk_alloc ?_ _)); exact BK187.out) hb); have n4_ := Aside0.mk (blk_below (g := gb194) (o := .cells #[.int .i64 t188, .int .i64 t189, .slice Ao97 x195002_2.length co97, .int .i64 t193] 26 (0, 0)) (by (with_reducible repeat (first | refine blk_drewN ?_ _ | refine blk_drew ?_ | refine blk_alloc ?_ _)); exact BK194.out) hb); have n5_ := Aside0.mk (blk_below (g := gb202) (o := .cells #[.int .i64 t195, .int .i64 t196, .slice Ao91 x203002_2.length co91, .int .i64 t200] 26 (0, 0)) (by (with_reducible repeat (first | refine blk_drewN ?_ _ | refine blk_drew ?_ | refine blk_alloc ?_ _)); exact BK202.out) hb); have n6_ := Aside0.mk (blk_below (g := gb210) (o := .cells #[.int .i64 t203, .int .i64 t204, u211002, .int .i64 t208] 26 (0, 0)) (by (with_reducible repeat (first | refine blk_drewN ?_ _ | refine blk_drew ?_ | refine blk_alloc ?_ _)); exact BK210.out) hb); have n7_ := Aside0.mk (below_step (by repeat (first | (with_reducible first | exact HB.out | apply below_alloc | apply pw_below_drewN | apply below_drew1 | refine below_set ?_ GE187.out | refine below_set ?_ GE194.out | refine below_set ?_ GE202.out | refine below_set ?_ GE210.out) | exact HB.out)) hb); clear HO_195002; clear HO_203002; clear HO_211002; clear BK187; clear BK194; clear BK202; clear BK210; clear HB; have HO_195002 := n0_; have HO_203002 := n1_; have HO_211002 := n2_; have BK187 := n3_; have BK194 := n4_; have BK202 := n5_; have BK210 := n6_; have HB := n7_; clear n0_ n1_ n2_ n3_ n4_ n5_ n6_ n7_; (try clear hb); (try clear hb2); (try clear hk); (try clear hi)))
                go_ret
                exact ⟨by first | rfl | (simp [errW_none, errW_some] <;> rfl) | (simp [*, errW_none, errW_some] <;> rfl), by repeat (first | (with_reducible first | exact HB.out | apply below_alloc | apply pw_below_drewN | apply below_drew1 | refine below_set ?_ GE187.out | refine below_set ?_ GE194.out | refine below_set ?_ GE202.out | refine below_set ?_ GE210.out) | exact HB.out)⟩

end Go.Proofs.Ytiebeiloooblpaa.E
end
section
-- the statement of a law, by myprint.py
namespace Go.Proofs.Ytiebeiloooblpaa.E
open Go.RowKit Go.Proofs.YtiebeiloooblpaaW.PrintWords Go.Proofs.YtiebeiloooblpaaW.PrintLast Go.Proofs.YtiebeiloooblpaaW.PrintMore
attribute [local go_sem] max2_int min2_int max_two min_two max_three min_three max_four min_four   -- for this text's walks alone
set_option linter.unusedVariables false
set_option linter.unusedSimpArgs false

def GEl33 (x : S33) : Prop := ((Lit.int .i64 x.f0).wf = true) ∧ ((Lit.int .i64 x.f1).wf = true) ∧ x.f2.size ≤ 140737488351232
/-- THE PURE STATEMENT of rialtolaw09_SnapCompacts. -/
def rialtolaw09_SnapCompacts.Pure : Prop := ∀ (a0_0 : Int) (a0_1 : Int) (l0_2 : List (S33)) (a0_3 : Int) (a1 : Int), ((Lit.int .i64 a0_0).wf = true) → ((Lit.int .i64 a0_1).wf = true) → (l0_2.length * 32 ≤ 140737488351232 ∧ ∀ y_ ∈ l0_2, GEl33 y_) → ((Lit.int .i64 a0_3).wf = true) → ((Lit.int .i64 a1).wf = true) → ∃ k, rialtolaw09_SnapCompacts.f k a0_0 a0_1 l0_2 a0_3 a1 = some true
end Go.Proofs.Ytiebeiloooblpaa.E
end
section
/- Rounds: from some round on a function answers; words for plain laws. -/
namespace Go.Proofs.YtiebeiloooblpaaW.PrintWords
theorem Ev.eqv {α : Type} {F : Nat → Option α} {v u : α} (h : Ev F u) (e : u = v) : Ev F v := e ▸ h
theorem Ev.ite {α : Type} {c : Prop} [Decidable c] {F G : Nat → Option α} {v : α} (h : c → Ev F v) (g : ¬ c → Ev G v) : Ev (fun k => if c then F k else G k) v := by
  by_cases hc : c
  · simpa [hc] using h hc
  · simpa [hc] using g hc
theorem Ev.pos {α : Type} {c : Prop} [Decidable c] {F G : Nat → Option α} {v : α} (hc : c) (h : Ev F v) : Ev (fun k => if c then F k else G k) v := by
  simpa [hc] using h
theorem Ev.neg {α : Type} {c : Prop} [Decidable c] {F G : Nat → Option α} {v : α} (hc : ¬ c) (h : Ev G v) : Ev (fun k => if c then F k else G k) v := by
  simpa [hc] using h
theorem Ev.succ {α : Type} {F : Nat → Option α} {v : α} (h : Ev (fun k => F (k + 1)) v) : Ev F v := Ev.step (fun _ => rfl) h
end Go.Proofs.YtiebeiloooblpaaW.PrintWords
namespace Go.Proofs.YtiebeiloooblpaaEV
open Go.RowKit Go.Proofs.YtiebeiloooblpaaW.PrintWords
theorem w64 (n : Int) (h0 : -9223372036854775808 ≤ n) (h1 : n ≤ 9223372036854775807) : wrap64 n = n := by
  unfold wrap64; omega
theorem drop_one {α : Type} (l : List α) (d : α) (n : Nat) (h : n < l.length) : l.drop n = l.getD n d :: l.drop (n + 1) := by
  rw [List.drop_eq_getElem_cons h]; simp [List.getD, h]
end Go.Proofs.YtiebeiloooblpaaEV
end
section
namespace Go.Proofs.Ytiebeiloooblpaa.Pure
open Go.RowKit Go.Proofs.Ytiebeiloooblpaa.E Go.Proofs.YtiebeiloooblpaaW.PrintWords Go.Proofs.YtiebeiloooblpaaW.PrintLast Go.Proofs.YtiebeiloooblpaaW.PrintMore Go.Proofs.YtiebeiloooblpaaEV
-- the plain law of layer 8's logs
def isEn (x : S33) : Bool := entries_isEntry.p x.f0 x.f1 x.f2
def isMk (i t : Int) : Bool := (decide (0 ≤ i) && decide (i ≤ 1000000)) && ((decide (0 ≤ t) && decide (t ≤ 1000000)) && ((i == 0) == (t == 0)))
def rows : List S33 → Int → Bool
  | [], _ => true
  | x :: l, f => isEn x && (decide (f ≤ x.f0) && rows l x.f0)
def chk (b0 b1 : Int) (l : List S33) (c : Int) : Bool := isMk b0 b1 && (decide (l.length ≤ 400) && (rows l b1 && (decide (b0 + l.length ≤ 1000000) && (decide (b0 ≤ c) && decide (c ≤ b0 + l.length)))))

theorem entries_within_eq (a b c : Int) : entries_within.f a b c = some (decide (b ≤ a) && decide (a ≤ c)) := by
  unfold entries_within.f; by_cases h : b ≤ a <;> simp [h]
theorem ref08_within_eq (a b c : Int) : rialtoref08_within.f a b c = some (decide (b ≤ a) && decide (a ≤ c)) := by
  unfold rialtoref08_within.f; by_cases h : b ≤ a <;> simp [h]
theorem ref07_within_eq (a b c : Int) : rialtoref07_within.f a b c = some (decide (b ≤ a) && decide (a ≤ c)) := by
  unfold rialtoref07_within.f; by_cases h : b ≤ a <;> simp [h]
theorem entries_isMark_eq (i t : Int) : entries_isMark.f i t = some (isMk i t) := by
  unfold entries_isMark.f isMk
  simp only [entries_within_eq, Option.bind_some]
  by_cases h : (decide (0 ≤ i) && decide (i ≤ 1000000)) = true
  · rw [if_pos h, h]
    by_cases g : (decide (0 ≤ t) && decide (t ≤ 1000000)) = true
    · rw [if_pos g, g]; simp
    · rw [if_neg g]; simp [Bool.eq_false_iff.mpr g]
  · rw [if_neg h]; simp [Bool.eq_false_iff.mpr h]
theorem ref07_Mark_eq (i t : Int) : rialtoref07_Mark.f i t = some (isMk i t) := by
  unfold rialtoref07_Mark.f isMk
  simp only [ref07_within_eq, Option.bind_some]
  by_cases h : (decide (0 ≤ i) && decide (i ≤ 1000000)) = true
  · rw [if_pos h, h]
    by_cases g : (decide (0 ≤ t) && decide (t ≤ 1000000)) = true
    · rw [if_pos g, g]; simp
    · rw [if_neg g]; simp [Bool.eq_false_iff.mpr g]
  · rw [if_neg h]; simp [Bool.eq_false_iff.mpr h]
theorem ref08_Entry_eq (a b : Int) (s : ByteArray) : rialtoref08_Entry.f a b s = some (entries_isEntry.p a b s) := by
  unfold rialtoref08_Entry.f entries_isEntry.p
  simp only [ref08_within_eq, Option.bind_some]
  by_cases h : (decide (1 ≤ a) && decide (a ≤ 1000000)) = true
  · rw [if_pos h, h]
    by_cases hb : b = 1
    · subst hb
      by_cases hs : s.toList = ([] : List UInt8)
      · simp [hs]
      · simp [hs]
    · by_cases hb2 : b = 2
      · subst hb2; simp
      · simp [hb, hb2]
  · rw [if_neg h]; simp [Bool.eq_false_iff.mpr h]
theorem rd33 (l : List S33) (n : Nat) : rd_T33 l (n : Int) = l.getD n z33 := by simp [rd_T33]

theorem entries_rising_l (l : List S33) (hl : l.length < 4398046511104) (m n : Nat) (hn : n + m = l.length) (a : Int) :
    Ev (fun k => entries_rising.l0 k a l (l.length : Int) (n : Int)) (rows (l.drop n) a) := by
  induction m generalizing n a with
  | zero =>
    refine Ev.succ ?_
    simp only [entries_rising.l0]
    refine Ev.neg (by omega) ?_
    rw [List.drop_eq_nil_of_le (by omega)]
    exact Ev.now _
  | succ m ih =>
    refine Ev.succ ?_
    simp only [entries_rising.l0]
    refine Ev.pos (by omega) ?_
    refine Ev.pos (by omega) ?_
    refine Ev.pos (by omega) ?_
    rw [rd33, drop_one l z33 n (by omega)]
    unfold entries_isEntry.f
    simp only [Option.bind_some, rows, isEn]
    by_cases h : entries_isEntry.p (l.getD n z33).f0 (l.getD n z33).f1 (l.getD n z33).f2 = true
    · simp only [h, if_true, Bool.true_and]
      by_cases g : (l.getD n z33).f0 < a
      · simp only [g, if_true]
        rw [decide_eq_false (show ¬ a ≤ (l.getD n z33).f0 by omega), Bool.false_and]
        exact Ev.now _
      · simp only [g, if_false]
        rw [w64 _ (by omega) (by omega)]
        have := ih (n + 1) (by omega) (l.getD n z33).f0
        rw [decide_eq_true (show a ≤ (l.getD n z33).f0 by omega), Bool.true_and]
        exact this
    · simp only [Bool.eq_false_iff.mpr h, Bool.false_eq_true, if_false, Bool.false_and]
      exact Ev.now _
theorem ref08_Rows_l (l : List S33) (hl : l.length < 4398046511104) (m n : Nat) (hn : n + m = l.length) (a : Int) :
    Ev (fun k => rialtoref08_Rows.l0 k l a (n : Int)) (rows (l.drop n) a) := by
  induction m generalizing n a with
  | zero =>
    refine Ev.succ ?_
    simp only [rialtoref08_Rows.l0]
    refine Ev.neg (by omega) ?_
    rw [List.drop_eq_nil_of_le (by omega)]
    exact Ev.now _
  | succ m ih =>
    refine Ev.succ ?_
    simp only [rialtoref08_Rows.l0]
    refine Ev.pos (by omega) ?_
    refine Ev.pos (by omega) ?_
    rw [rd33, drop_one l z33 n (by omega)]
    simp only [ref08_Entry_eq, Option.bind_some, rows, isEn]
    by_cases h : entries_isEntry.p (l.getD n z33).f0 (l.getD n z33).f1 (l.getD n z33).f2 = true
    · simp only [h, if_true, Bool.true_and]
      by_cases g : (l.getD n z33).f0 < a
      · simp only [g, if_true]
        rw [decide_eq_false (show ¬ a ≤ (l.getD n z33).f0 by omega), Bool.false_and]
        exact Ev.now _
      · simp only [g, if_false]
        rw [w64 _ (by omega) (by omega)]
        have := ih (n + 1) (by omega) (l.getD n z33).f0
        rw [decide_eq_true (show a ≤ (l.getD n z33).f0 by omega), Bool.true_and]
        exact this
    · simp only [Bool.eq_false_iff.mpr h, Bool.false_eq_true, if_false, Bool.false_and]
      exact Ev.now _
theorem entries_rising_ev (l : List S33) (hl : l.length < 4398046511104) (a : Int) : Ev (fun k => entries_rising.f k l a) (rows l a) := by
  have := entries_rising_l l hl l.length 0 (by omega) a
  simpa [entries_rising.f] using this
theorem ref08_Rows_ev (l : List S33) (hl : l.length < 4398046511104) (a : Int) : Ev (fun k => rialtoref08_Rows.f k l a) (rows l a) := by
  have := ref08_Rows_l l hl l.length 0 (by omega) a
  simpa [rialtoref08_Rows.f] using this
theorem isMk_of {i t : Int} (h : isMk i t = true) : 0 ≤ i ∧ i ≤ 1000000 ∧ 0 ≤ t ∧ t ≤ 1000000 ∧ (i = 0 ↔ t = 0) := by
  simp only [isMk, Bool.and_eq_true, decide_eq_true_eq, beq_iff_eq] at h
  obtain ⟨⟨h1, h2⟩, ⟨h3, h4⟩, h5⟩ := h
  refine ⟨h1, h2, h3, h4, ?_⟩
  by_cases hi : i = 0
  · by_cases ht : t = 0
    · simp [hi, ht]
    · simp [hi, ht] at h5
  · by_cases ht : t = 0
    · simp [hi, ht] at h5
    · simp [hi, ht]
theorem chk_of {b0 b1 : Int} {l : List S33} {c : Int} (h : chk b0 b1 l c = true) : (0 ≤ b0 ∧ b0 ≤ 1000000 ∧ 0 ≤ b1 ∧ b1 ≤ 1000000 ∧ (b0 = 0 ↔ b1 = 0)) ∧ l.length ≤ 400 ∧ rows l b1 = true ∧ b0 + l.length ≤ 1000000 ∧ b0 ≤ c ∧ c ≤ b0 + l.length := by
  simp only [chk, Bool.and_eq_true, decide_eq_true_eq] at h
  obtain ⟨h1, h2, h3, h4, h5, h6⟩ := h
  exact ⟨isMk_of h1, h2, h3, h4, h5, h6⟩
theorem entries_Check_ev (b0 b1 : Int) (l : List S33) (c : Int) (hl : l.length < 4398046511104) :
    Ev (fun k => entries_Check.f k b0 b1 l c) (if chk b0 b1 l c = true then 0 else 80) := by
  unfold entries_Check.f chk
  simp only [entries_isMark_eq, Option.bind_some]
  by_cases h1 : isMk b0 b1 = true
  · have hm := isMk_of h1
    simp only [h1, if_true, Bool.true_and]
    by_cases h2 : (l.length : Int) > 400
    · simp only [h2, if_true]
      rw [decide_eq_false (show ¬ l.length ≤ 400 by omega)]
      simp only [Bool.false_and, Bool.false_eq_true, if_false]
      exact Ev.now _
    · simp only [h2, if_false]
      rw [decide_eq_true (show l.length ≤ 400 by omega)]
      simp only [Bool.true_and]
      refine Ev.bind (entries_rising_ev l hl b1) ?_
      by_cases h3 : rows l b1 = true
      · simp only [h3, if_true, Bool.true_and, entries_end.f, Option.bind_some, entries_within_eq]
        rw [w64 _ (by omega) (by omega)]
        by_cases h4 : b0 + (l.length : Int) ≤ 1000000
        · refine Ev.neg (by omega) ?_
          simp only [h4, decide_true, Bool.true_and]
          refine Ev.ite (fun h5 => ?_) (fun h5 => ?_)
          · rw [h5]; exact Ev.now _
          · rw [Bool.eq_false_iff.mpr h5]; exact Ev.now _
        · refine Ev.pos (by omega) ?_
          simp only [h4, decide_false, Bool.false_and, Bool.false_eq_true, if_false]
          exact Ev.now _
      · simp only [Bool.eq_false_iff.mpr h3, Bool.false_and, Bool.false_eq_true, if_false]
        exact Ev.now _
  · simp only [Bool.eq_false_iff.mpr h1, Bool.false_and, Bool.false_eq_true, if_false]
    exact Ev.now _
theorem ref08_Check_ev (b0 b1 : Int) (l : List S33) (c : Int) (hl : l.length < 4398046511104) :
    Ev (fun k => rialtoref08_Check.f k b0 b1 l c) (if chk b0 b1 l c = true then 0 else 80) := by
  unfold rialtoref08_Check.f chk
  simp only [ref07_Mark_eq, Option.bind_some]
  by_cases h1 : isMk b0 b1 = true
  · have hm := isMk_of h1
    simp only [h1, if_true, Bool.true_and]
    by_cases h2 : (l.length : Int) > 400
    · simp only [h2, if_true]
      rw [decide_eq_false (show ¬ l.length ≤ 400 by omega)]
      simp only [Bool.false_and, Bool.false_eq_true, if_false]
      exact Ev.now _
    · simp only [h2, if_false]
      rw [decide_eq_true (show l.length ≤ 400 by omega)]
      simp only [Bool.true_and]
      refine Ev.bind (ref08_Rows_ev l hl b1) ?_
      by_cases h3 : rows l b1 = true
      · simp only [h3, if_true, Bool.true_and, rialtoref08_end.f, Option.bind_some, ref08_within_eq]
        rw [w64 _ (by omega) (by omega)]
        by_cases h4 : b0 + (l.length : Int) ≤ 1000000
        · refine Ev.neg (by omega) ?_
          simp only [h4, decide_true, Bool.true_and]
          refine Ev.ite (fun h5 => ?_) (fun h5 => ?_)
          · rw [h5]; exact Ev.now _
          · rw [Bool.eq_false_iff.mpr h5]; exact Ev.now _
        · refine Ev.pos (by omega) ?_
          simp only [h4, decide_false, Bool.false_and, Bool.false_eq_true, if_false]
          exact Ev.now _
      · simp only [Bool.eq_false_iff.mpr h3, Bool.false_and, Bool.false_eq_true, if_false]
        exact Ev.now _
  · simp only [Bool.eq_false_iff.mpr h1, Bool.false_and, Bool.false_eq_true, if_false]
    exact Ev.now _
/-- the term at an index of a log -/
def termAt (b0 b1 : Int) (l : List S33) (c i : Int) : Int × Bool :=
  if chk b0 b1 l c = true ∧ b0 ≤ i ∧ i ≤ b0 + l.length then (if i = b0 then (b1, true) else ((l.getD (i - b0 - 1).toNat z33).f0, true)) else (0, false)
theorem entries_TermAt_ev (b0 b1 : Int) (l : List S33) (c i : Int) (hl : l.length < 4398046511104) :
    Ev (fun k => entries_TermAt.f k b0 b1 l c i) (termAt b0 b1 l c i) := by
  unfold entries_TermAt.f termAt
  refine Ev.bind (entries_Check_ev b0 b1 l c hl) ?_
  by_cases h1 : chk b0 b1 l c = true
  · obtain ⟨hm, hn, hr, he, hc⟩ := chk_of h1
    simp only [h1, if_true, true_and, entries_end.f, entries_within_eq, Option.bind_some]
    rw [w64 _ (by omega) (by omega)]
    refine Ev.succ ?_
    simp only [entries_TermAt.j0]
    by_cases h2 : b0 ≤ i ∧ i ≤ b0 + l.length
    · rw [if_pos h2]
      obtain ⟨h2, h3⟩ := h2
      refine Ev.neg (by simp; omega) ?_
      by_cases h4 : i = b0
      · refine Ev.eqv ?_ (if_pos h4).symm
        exact Ev.pos h4 (Ev.now _)
      · refine Ev.eqv ?_ (if_neg h4).symm
        have e : wrap64 (wrap64 (i - b0) - 1) = i - b0 - 1 := by rw [w64 (i - b0) (by omega) (by omega), w64 _ (by omega) (by omega)]
        rw [e]
        exact Ev.neg h4 (Ev.pos (by omega) (Ev.pos (by omega) (Ev.now _)))
    · rw [if_neg h2]
      exact Ev.pos (by simp; omega) (Ev.now _)
  · simp only [Bool.eq_false_iff.mpr h1, Bool.false_eq_true, if_false, false_and]
    refine Ev.neg (by omega) ?_
    refine Ev.succ ?_
    simp only [entries_TermAt.j0, if_true]
    exact Ev.now _
theorem ref08_TermAt_ev (b0 b1 : Int) (l : List S33) (c i : Int) (hl : l.length < 4398046511104) :
    Ev (fun k => rialtoref08_TermAt.f k b0 b1 l c i) (termAt b0 b1 l c i) := by
  unfold rialtoref08_TermAt.f termAt
  refine Ev.bind (ref08_Check_ev b0 b1 l c hl) ?_
  by_cases h1 : chk b0 b1 l c = true
  · obtain ⟨hm, hn, hr, he, hc⟩ := chk_of h1
    simp only [h1, if_true, true_and, rialtoref08_end.f, Option.bind_some]
    rw [w64 (b0 + (l.length : Int)) (by omega) (by omega)]
    by_cases h2 : b0 ≤ i
    · refine Ev.neg (by omega) ?_
      refine Ev.succ ?_
      simp only [rialtoref08_TermAt.j0]
      by_cases h3 : i ≤ b0 + l.length
      · rw [if_pos (And.intro h2 h3)]
        refine Ev.neg (by simp; omega) ?_
        by_cases h4 : i = b0
        · refine Ev.eqv ?_ (if_pos h4).symm
          exact Ev.pos h4 (Ev.now _)
        · refine Ev.eqv ?_ (if_neg h4).symm
          have e : wrap64 (wrap64 (i - b0) - 1) = i - b0 - 1 := by rw [w64 (i - b0) (by omega) (by omega), w64 _ (by omega) (by omega)]
          rw [e]
          exact Ev.neg h4 (Ev.pos (by omega) (Ev.pos (by omega) (Ev.now _)))
      · rw [if_neg (show ¬ (b0 ≤ i ∧ i ≤ b0 + l.length) by omega)]
        exact Ev.pos (by simp; omega) (Ev.now _)
    · rw [if_neg (by omega)]
      refine Ev.pos (by omega) ?_
      refine Ev.succ ?_
      simp only [rialtoref08_TermAt.j0, if_true]
      exact Ev.now _
  · simp only [Bool.eq_false_iff.mpr h1, Bool.false_eq_true, if_false, false_and]
    refine Ev.neg (by omega) ?_
    refine Ev.succ ?_
    simp only [rialtoref08_TermAt.j0, if_true]
    exact Ev.now _
theorem ref08_SameEntries_l (l : List S33) (hl : l.length < 4398046511104) (m n : Nat) (hn : n + m = l.length) :
    Ev (fun k => rialtoref08_SameEntries.l0 k l l (n : Int)) true := by
  induction m generalizing n with
  | zero =>
    refine Ev.succ ?_
    simp only [rialtoref08_SameEntries.l0]
    refine Ev.neg (by omega) ?_
    exact Ev.now _
  | succ m ih =>
    refine Ev.succ ?_
    simp only [rialtoref08_SameEntries.l0]
    refine Ev.pos (by omega) ?_
    refine Ev.pos (by omega) ?_
    refine Ev.pos (by omega) ?_
    refine Ev.neg (by simp) ?_
    rw [w64 _ (by omega) (by omega)]
    exact ih (n + 1) (by omega)
theorem ref08_SameEntries_ev (l : List S33) (hl : l.length < 4398046511104) : Ev (fun k => rialtoref08_SameEntries.f k l l) true := by
  have := ref08_SameEntries_l l hl l.length 0 (by omega)
  simpa [rialtoref08_SameEntries.f] using this
theorem ref08_Same_ev (b0 b1 : Int) (l : List S33) (c : Int) (hl : l.length < 4398046511104) : Ev (fun k => rialtoref08_Same.f k b0 b1 l c b0 b1 l c) true := by
  unfold rialtoref08_Same.f
  refine Ev.pos (by simp) ?_
  refine Ev.pos rfl ?_
  exact Ev.bind (ref08_SameEntries_ev l hl) (Ev.now _)
theorem ref08_Copy_eq (b0 b1 : Int) (l : List S33) (c : Int) (hl : l.length < 4398046511104) : rialtoref08_Copy.f b0 b1 l c = some (b0, b1, l, c) := by
  unfold rialtoref08_Copy.f
  rw [if_pos (by simp; omega)]; simp
end Go.Proofs.Ytiebeiloooblpaa.Pure
end
section
-- written by myprint.py, a program of this session over the kit's print.py
namespace Go.Proofs.Ytiebeiloooblpaa.E
open Go.RowKit Go.Proofs.YtiebeiloooblpaaW.PrintWords Go.Proofs.YtiebeiloooblpaaW.PrintLast Go.Proofs.YtiebeiloooblpaaW.PrintMore
attribute [local go_sem] max2_int min2_int max_two min_two max_three min_three max_four min_four   -- for this text's walks alone
set_option linter.unusedVariables false
set_option linter.unusedSimpArgs false

/-! ### rialtoref09_Install: function 19 -/
end Go.Proofs.Ytiebeiloooblpaa.E
end
section
namespace Go.Proofs.Ytiebeiloooblpaa.Pure
open Go.RowKit Go.Proofs.Ytiebeiloooblpaa.E Go.Proofs.YtiebeiloooblpaaW.PrintWords Go.Proofs.YtiebeiloooblpaaW.PrintLast Go.Proofs.YtiebeiloooblpaaW.PrintMore Go.Proofs.YtiebeiloooblpaaEV
-- the plain law of layer 9
def compact (b0 b1 : Int) (l : List S33) (c i : Int) : Int × Int × List S33 × Int × Int :=
  if chk b0 b1 l c = true then (if i ≤ b0 ∨ c < i then (0, 0, [], 0, 91) else (i, (termAt b0 b1 l c i).1, l.drop (i - b0).toNat, c, 0)) else (0, 0, [], 0, 90)
theorem snap_Compact_ev (b0 b1 : Int) (l : List S33) (c i : Int) (hl : l.length < 4398046511104) : Ev (fun k => snap_Compact.f k b0 b1 l c i) (compact b0 b1 l c i) := by
  unfold snap_Compact.f compact
  refine Ev.bind (entries_Check_ev b0 b1 l c hl) ?_
  by_cases h1 : chk b0 b1 l c = true
  · obtain ⟨hm, hn, hr, he, hc⟩ := chk_of h1
    simp only [h1, if_true]
    by_cases h2 : i ≤ b0 ∨ c < i
    · simp only [h2, if_true]; exact Ev.now _
    · simp only [h2, if_false]
      refine Ev.bind (entries_TermAt_ev b0 b1 l c i hl) ?_
      unfold snap_cut
      rw [w64 _ (by omega) (by omega), if_pos (by omega)]
      exact Ev.now _
  · simp only [h1]
    exact Ev.now _
theorem ref09_behind_eq (b0 b1 : Int) (l : List S33) (c i : Int) (hl : l.length < 4398046511104) (h0 : 0 ≤ b0) (h1 : b0 ≤ i) (h2 : i ≤ b0 + l.length) (h3 : i ≤ 1000000) : rialtoref09_behind.f b0 b1 l c i = some (l.drop (i - b0).toNat) := by
  unfold rialtoref09_behind.f
  rw [w64 _ (by omega) (by omega), if_pos (by omega), if_pos (by omega), Option.bind_some, if_pos (by simp; omega)]
  simp
theorem ref09_Compact_ev (b0 b1 : Int) (l : List S33) (c i : Int) (hl : l.length < 4398046511104) : Ev (fun k => rialtoref09_Compact.f k b0 b1 l c i) (compact b0 b1 l c i) := by
  unfold rialtoref09_Compact.f compact
  refine Ev.bind (ref08_Check_ev b0 b1 l c hl) ?_
  by_cases h1 : chk b0 b1 l c = true
  · obtain ⟨hm, hn, hr, he, hc⟩ := chk_of h1
    simp only [h1, if_true]
    by_cases h2 : i ≤ b0
    · rw [if_pos (Or.inl h2)]
      refine Ev.pos h2 (Ev.succ ?_)
      simp only [rialtoref09_Compact.j0, if_true]
      exact Ev.now _
    · refine Ev.neg h2 (Ev.succ ?_)
      simp only [rialtoref09_Compact.j0]
      by_cases h3 : c < i
      · rw [if_pos (Or.inr h3)]
        exact Ev.pos (by simpa using h3) (Ev.now _)
      · rw [if_neg (by omega)]
        refine Ev.neg (by simpa using h3) ?_
        refine Ev.bind (ref08_TermAt_ev b0 b1 l c i hl) ?_
        rw [ref09_behind_eq b0 b1 l c i hl (by omega) (by omega) (by omega) (by omega)]
        exact Ev.now _
  · simp only [h1]
    exact Ev.now _
theorem live_ev : Ev (fun k => rialtolaw09_live.f k) true := Ev.of (k := 20) (fun k => rialtolaw09_live.mono k) (by kernel_rfl)

end Go.Proofs.Ytiebeiloooblpaa.Pure
end
section
namespace Go.Proofs.Ytiebeiloooblpaa.Pure
open Go.RowKit Go.Proofs.Ytiebeiloooblpaa.E Go.Proofs.YtiebeiloooblpaaW.PrintWords Go.Proofs.YtiebeiloooblpaaW.PrintLast Go.Proofs.YtiebeiloooblpaaW.PrintMore Go.Proofs.YtiebeiloooblpaaEV
theorem spoilCompacts (b0 b1 : Int) (l : List S33) (c : Int) (hl : l.length < 4398046511104) (a0 a1 a3 : Int) (m n : Nat) (q : List S33) (hq : q.length < 4398046511104) (hn : n + m = q.length) :
    Ev (fun k => rialtolaw09_SnapCompacts.l0 k (n : Int) b0 b1 l c b0 b1 l c a0 a1 q a3) true := by
  induction m generalizing n q with
  | zero =>
    refine Ev.succ ?_
    simp only [rialtolaw09_SnapCompacts.l0]
    refine Ev.neg (by omega) (Ev.bind (ref08_Same_ev b0 b1 l c hl) (Ev.pos rfl (Ev.bind live_ev (Ev.now _))))
  | succ m ih =>
    refine Ev.succ ?_
    simp only [rialtolaw09_SnapCompacts.l0]
    refine Ev.pos (by omega) (Ev.pos (by omega) ?_)
    rw [w64 _ (by omega) (by omega)]
    exact ih (n + 1) _ (by simpa using hq) (by simp; omega)
theorem SnapCompacts : rialtolaw09_SnapCompacts.Pure := by
  intro b0 b1 l c i hb0 hb1 hl hc hi
  have hn : l.length < 4398046511104 := by have := hl.1; omega
  refine Ev.rounds ?_
  unfold rialtolaw09_SnapCompacts.f
  rw [ref08_Copy_eq b0 b1 l c hn]
  refine Ev.bind (Ev.now _) (Ev.bind (snap_Compact_ev b0 b1 l c i hn) (Ev.bind (ref09_Compact_ev b0 b1 l c i hn) ?_))
  have hlen : (compact b0 b1 l c i).2.2.1.length < 4398046511104 := by
    unfold compact; split
    · split
      · simp
      · simp; omega
    · simp
  refine Ev.bind (ref08_Same_ev _ _ _ _ hlen) (Ev.pos rfl (Ev.pos rfl (Ev.bind (ref08_Same_ev b0 b1 l c hn) (Ev.succ ?_))))
  simp only [rialtolaw09_SnapCompacts.j0]
  exact Ev.neg (by simp) (spoilCompacts b0 b1 l c hn _ _ _ _ 0 _ hlen (Nat.zero_add _))

end Go.Proofs.Ytiebeiloooblpaa.Pure
end
section
/- Helper lemmas of this session: an argument that reads as data, opened to plain values, whatever its type's depth; and what its size says. -/
namespace Go.Proofs.YtiebeiloooblpaaO
open Go.RowKit Go.Proofs.YtiebeiloooblpaaW.PrintWords Go.Deep

/-- What a bound on a reading says of its slices' lengths (S) and its strings' (T), at every depth. -/
structure Sizes (P : Program) (Bd : (H : Type) → TypeId → DataW H → Prop) (S : TypeId → Nat → Prop) (T : Nat → Prop) : Prop where
  slice : ∀ (H : Type) (t e : TypeId) (es sp : List (DataW H)), P.underlying t = some (.slice e) → Bd H t (.slice es sp) → S e es.length ∧ ∀ d ∈ es, Bd H e d
  zero : ∀ e, S e 0
  string : ∀ (H : Type) (t : TypeId) (bs : List UInt8), Bd H t (.lit (.string bs)) → T bs.length
  struct : ∀ (H : Type) (t : TypeId) (fs : Array Field) (ps : List (DataW H)), P.underlying t = some (.struct fs) → Bd H t (.agg ps) → ∀ (i : Nat) (f : Field) (p : DataW H), fs[i]? = some f → ps[i]? = some p → Bd H f.type p

/-- Values of type t read as d's; G: what is known of them. -/
structure Opens {α : Type} (P : Program) (Bd : (H : Type) → TypeId → DataW H → Prop) (t : TypeId) (d : Kd α) (G : α → Prop) : Prop where
  go : ∀ (H : Type) (enc : TypeId × Value → H) (w : World) (base : Nat) (spare : Nat → Bool) (held : Bool) (fuel : Nat) (cs : List Value) (x : DataW H × List MemPlace),
    DataW.trod enc P w base spare held fuel t cs = some x → Bd H t x.1 → ∃ v, d.K w v cs ∧ G v

theorem add_add' (a : Addr) (i j : Nat) : (a.add i).add j = a.add (i + j) := by
  unfold Addr.add
  by_cases h1 : i = 0 <;> by_cases h2 : j = 0 <;> simp [h1, h2, Nat.add_assoc]
theorem listOf {α : Type} {Q : Nat → α → Prop} : ∀ n, (∀ i, i < n → ∃ v, Q i v) → ∃ xs : List α, xs.length = n ∧ ∀ i p, xs[i]? = some p → Q i p
  | 0, _ => ⟨[], rfl, fun i p h => by simp at h⟩
  | n + 1, h => by
    obtain ⟨xs, hl, hx⟩ := listOf n (fun i hi => h i (by omega))
    obtain ⟨v, hv⟩ := h n (Nat.lt_succ_self n)
    refine ⟨xs ++ [v], by simp [hl], fun i p hp => ?_⟩
    rcases Nat.lt_or_ge i xs.length with hi | hi
    · rw [List.getElem?_append_left hi] at hp
      exact hx i p hp
    · have hlt := (List.getElem?_eq_some_iff.1 hp).1
      rw [List.length_append, List.length_singleton] at hlt
      obtain rfl : i = n := by omega
      rw [List.getElem?_append_right hi] at hp
      simp [hl] at hp
      subst hp
      exact hv

section
variable {P : Program} {Bd : (H : Type) → TypeId → DataW H → Prop} {S : TypeId → Nat → Prop} {T : Nat → Prop}

theorem Opens.int {t : TypeId} {k : IntKind} (ht : P.underlying t = some (.int k)) : Opens P Bd t (Kd.int k) (fun n => (Lit.int k n).wf = true) where
  go H enc w base spare held fuel cs x h hb := by
    obtain ⟨n, rfl, _, hw⟩ := DataW.trod_int ht h
    exact ⟨n, rfl, hw⟩
theorem Opens.string (Z : Sizes P Bd S T) {t : TypeId} (ht : P.underlying t = some .string) : Opens P Bd t Kd.string (fun s => T s.size) where
  go H enc w base spare held fuel cs x h hb := by
    obtain ⟨s, rfl, rfl, _⟩ := DataW.trod_string ht h
    have h1 := Z.string H t _ hb
    rw [Array.length_toList] at h1
    exact ⟨s, rfl, h1⟩
theorem Opens.iso {α β : Type} {d : Kd α} {G : α → Prop} {t : TypeId} (f : β → α) (g : α → β) (hfg : ∀ y, f (g y) = y) (O : Opens P Bd t d G) : Opens P Bd t (Kd.iso d f) (fun x => G (f x)) where
  go H enc w base spare held fuel cs x h hb := by
    obtain ⟨v, hK, hG⟩ := O.go H enc w base spare held fuel cs x h hb
    exact ⟨g v, by show d.K w (f (g v)) cs; rw [hfg]; exact hK, by show G (f (g v)); rw [hfg]; exact hG⟩
theorem Opens.bool {t : TypeId} (ht : P.underlying t = some .bool) : Opens P Bd t Kd.bool (fun _ => True) where
  go H enc w base spare held fuel cs x h hb := by
    cases fuel with
    | zero => simp [DataW.trod] at h
    | succ n =>
      unfold DataW.trod at h
      rw [ht] at h
      split at h <;> first | exact ⟨_, rfl, trivial⟩ | simp_all
theorem Opens.slice (Z : Sizes P Bd S T) {α : Type} {d : Kd α} {G : α → Prop} {t e : TypeId} {S' : Nat → Prop} (hS : ∀ n, S e n → S' n) (ht : P.underlying t = some (.slice e)) (hs : P.cellsOf e = d.sz) (O : Opens P Bd e d G) :
    Opens P Bd t (Kd.slice e d) (fun xs => S' xs.length ∧ ∀ x ∈ xs, G x) where
  go H enc w base spare held fuel cs x h hb := by
    rcases open_slice ht h with ⟨rfl, rfl⟩ | ⟨a, len, cap, m, n, D, Pl, rfl, _, hl, hm, hmm, rfl, hi⟩
    · exact ⟨[], ⟨none, 0, rfl, Nat.le_refl _, Kd.C_nil d w⟩, hS _ (Z.zero e), fun x h => by cases h⟩
    · have hlm : len ≤ m := by rw [hmm]; split <;> omega
      obtain ⟨h1, h2⟩ := Z.slice H t e _ _ ht hb
      rw [List.length_map, List.length_range] at h1
      replace h1 := hS _ h1
      have hel : ∀ i, i < len → ∃ v cs', d.K w v cs' ∧ G v ∧ (∀ j u, cs'[j]? = some u → w.cell? (a.add (i * d.sz + j)) = some u) := by
        intro i hil
        obtain ⟨cs', hc, htr⟩ := hi i (by omega)
        rw [hs] at hc
        obtain ⟨_, hcl, hat⟩ := World.cells?_some hc
        obtain ⟨v, hK, hG⟩ := O.go H enc w base spare held n cs' _ htr (h2 _ (List.mem_map.2 ⟨i, List.mem_range.2 hil, rfl⟩))
        refine ⟨v, cs', hK, hG, fun j u hu => ?_⟩
        have hj : j < d.sz := by rw [← hcl]; exact (List.getElem?_eq_some_iff.1 hu).1
        rw [← add_add', hat j hj, hu]
      obtain ⟨xs, hxl, hx⟩ := listOf len hel
      refine ⟨xs, ⟨some a, cap, by rw [hxl], by rw [hxl]; exact hl, ⟨rfl, by rw [hxl]; simp only [maxLen] at hm; omega, fun hp => ⟨a, rfl, fun j p hj => ?_⟩⟩⟩, by rw [hxl]; exact h1, fun x hxm => ?_⟩
      · obtain ⟨cs', hK, _, hc⟩ := hx j p hj
        exact ⟨cs', d.K_len hK, hK, hc⟩
      · obtain ⟨i, hi⟩ := List.mem_iff_getElem?.1 hxm
        obtain ⟨_, _, hG, _⟩ := hx i x hi
        exact hG

/-- The fields of a struct, from one on. -/
structure OpensFs {α : Type} (P : Program) (Bd : (H : Type) → TypeId → DataW H → Prop) (fs : List Field) (off : Nat) (d : Kd α) (G : α → Prop) : Prop where
  go : ∀ (H : Type) (enc : TypeId × Value → H) (w : World) (base : Nat) (spare : Nat → Bool) (held : Bool) (n : Nat) (cs : List Value) (xs : List (DataW H × List MemPlace)),
    xs.length = fs.length → (∀ (i : Nat) (f : Field), fs[i]? = some f → DataW.trod enc P w base spare held n f.type ((cs.drop f.offset).take (P.cellsOf f.type)) = xs[i]?) → cs.length = off + d.sz →
    (∀ (i : Nat) (f : Field) (p : DataW H × List MemPlace), fs[i]? = some f → xs[i]? = some p → Bd H f.type p.1) → ∃ v, d.K w v (cs.drop off) ∧ G v
theorem OpensFs.one {α : Type} {d : Kd α} {G : α → Prop} {f : Field} {off : Nat} (ho : f.offset = off) (hs : P.cellsOf f.type = d.sz) (O : Opens P Bd f.type d G) : OpensFs P Bd [f] off d G where
  go H enc w base spare held n cs xs hl ht hc hb := by
    obtain ⟨x, rfl⟩ : ∃ x, xs = [x] := List.length_eq_one_iff.1 hl
    have h1 := ht 0 f rfl
    have h2 := hb 0 f x rfl rfl
    rw [ho, hs, List.take_of_length_le (by rw [List.length_drop]; omega)] at h1
    exact O.go H enc w base spare held n _ x (by simpa using h1) h2
theorem OpensFs.cons {α β : Type} {a : Kd α} {b : Kd β} {G : α → Prop} {G' : β → Prop} {f : Field} {fs : List Field} {off : Nat} (ho : f.offset = off) (hs : P.cellsOf f.type = a.sz) (O : Opens P Bd f.type a G)
    (O' : OpensFs P Bd fs (off + a.sz) b G') : OpensFs P Bd (f :: fs) off (Kd.pair a b) (fun v => G v.1 ∧ G' v.2) where
  go H enc w base spare held n cs xs hl ht hc hb := by
    obtain ⟨x, xs, rfl⟩ : ∃ x r, xs = x :: r := by
      cases xs with
      | nil => simp at hl
      | cons x r => exact ⟨x, r, rfl⟩
    have h1 := ht 0 f rfl
    have h2 := hb 0 f x rfl rfl
    rw [ho, hs] at h1
    have hsz : (Kd.pair a b).sz = a.sz + b.sz := rfl
    obtain ⟨v, hv, hg⟩ := O.go H enc w base spare held n _ x (by simpa using h1) h2
    obtain ⟨u, hu, hg'⟩ := O'.go H enc w base spare held n cs xs (by simpa using hl) (fun i f' hf => by simpa using ht (i + 1) f' (by simpa using hf)) (by rw [hc, hsz]; omega) (fun i f' p hf hp => hb (i + 1) f' p (by simpa using hf) (by simpa using hp))
    refine ⟨(v, u), ⟨_, _, ?_, hv, hu⟩, hg, hg'⟩
    rw [← List.drop_drop, List.take_append_drop]
theorem Opens.struct (Z : Sizes P Bd S T) {α : Type} {d : Kd α} {G : α → Prop} {t : TypeId} {fs : Array Field} (ht : P.underlying t = some (.struct fs)) (hs : P.cellsOf t = d.sz) (O : OpensFs P Bd fs.toList 0 d G) : Opens P Bd t d G where
  go H enc w base spare held fuel cs x h hb := by
    obtain ⟨xs, n, _, rfl, hlen, hxl, hf⟩ := DataW.trod_struct ht h
    have h1 := O.go H enc w base spare held n cs xs (by simpa using hxl) (fun i f hi => hf i f (by simpa using hi)) (by rw [hlen, hs]; omega) (fun i f p hi hp => Z.struct H t fs _ ht hb i f p.1 (by simpa using hi) (by rw [List.getElem?_map, hp]; rfl))
    simpa using h1

end

/-- By the form's own reach. -/
def BdReach (P : Program) (H : Type) (t : TypeId) (d : DataW H) : Prop := ∀ n ∈ d.weights P t, n ≤ reachBytes
theorem weightsAll_mem {H : Type} {P : Program} {e : TypeId} {l : List (DataW H)} {d : DataW H} (h : d ∈ l) : ∀ n ∈ d.weights P e, n ∈ DataW.weightsAll P e l := by
  induction l with
  | nil => cases h
  | cons y r ih =>
    intro n hn
    rw [DataW.weightsAll]
    rcases List.mem_cons.1 h with rfl | h
    · exact List.mem_append_left _ hn
    · exact List.mem_append_right _ (ih h n hn)
theorem weightsEach_mem {H : Type} {P : Program} : ∀ {ts : List TypeId} {l : List (DataW H)} {i : Nat} {t : TypeId} {d : DataW H}, ts[i]? = some t → l[i]? = some d → ∀ n ∈ d.weights P t, n ∈ DataW.weightsEach P ts l
  | [], _, _, _, _, h, _, _, _ => by simp at h
  | _ :: _, [], _, _, _, _, h, _, _ => by simp at h
  | t0 :: ts, d0 :: l, 0, t, d, h, h', n, hn => by
    simp at h h'
    subst h
    subst h'
    rw [DataW.weightsEach]
    exact List.mem_append_left _ hn
  | t0 :: ts, d0 :: l, i + 1, t, d, h, h', n, hn => by
    rw [DataW.weightsEach]
    exact List.mem_append_right _ (weightsEach_mem (i := i) (by simpa using h) (by simpa using h') n hn)
theorem sizesReach (P : Program) : Sizes P (BdReach P) (fun e n => n * P.bytesOf e ≤ reachBytes) (fun n => n ≤ reachBytes) where
  slice H t e es sp ht h := by
    unfold BdReach at h
    rw [DataW.weights, ht] at h
    refine ⟨?_, fun d hd n hn => h n (List.mem_cons_of_mem _ (List.mem_append_left _ (weightsAll_mem hd n hn)))⟩
    have h1 := h _ List.mem_cons_self
    exact Nat.le_trans (Nat.mul_le_mul_right _ (Nat.le_add_right _ _)) h1
  zero e := by simp
  string H t bs h := h _ (by simp [DataW.weights])
  struct H t fs ps ht h i f p hf hp := by
    unfold BdReach at h
    rw [DataW.weights, ht] at h
    intro n hn
    exact h n (weightsEach_mem (i := i) (by rw [List.getElem?_map]; simp [hf]) hp n hn)

theorem reach_arg {H : Type} {P : Program} {ts : List TypeId} {l : List (DataW H)} (hk : (DataW.weightsEach P ts l).all (· ≤ reachBytes) = true) {i : Nat} {t : TypeId} {d : DataW H} (ht : ts[i]? = some t) (hd : l[i]? = some d) : BdReach P H t d := by
  intro n hn
  have h := List.all_eq_true.1 hk n (weightsEach_mem ht hd n hn)
  exact of_decide_eq_true h
end Go.Proofs.YtiebeiloooblpaaO
end
