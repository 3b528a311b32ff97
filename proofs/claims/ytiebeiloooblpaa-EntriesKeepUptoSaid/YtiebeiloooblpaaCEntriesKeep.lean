/- The law rialtolaw08.EntriesKeep holds: for every input of bulk at most 1048576 the call returns true, and each argument reads afterwards as it read before. No further condition. -/
import Derived.Test.YtiebeiloooblpaaRows
import Derived.WalkKit
import Derived.ProofKit
import Derived.OpenShut
import Derived.ShutString
import Derived.ChangeOld
import Derived.Below
import Derived.SizedLaws
import Derived.JoinedCond
import Derived.Test.YtiebeiloooblpaaMEntriesKeep6
-- the row of a law, by myprint.py
namespace Go.Proofs.Ytiebeiloooblpaa.entriesKeep
open Go.ChangeShapes Go.WideShapes Go.ChangeAt Go.RowKit
open Go.ChangeMaps (open_string shut_string)
open Go.Proofs.Ytiebeiloooblpaa.E Go.Proofs.YtiebeiloooblpaaW.PrintWords Go.Proofs.YtiebeiloooblpaaO
set_option linter.unusedVariables false
theorem own : ownKnob Try.prog.godebug = none := by kernel_rfl
theorem laidOut : laidOutB Try.prog = true := by kernel_rfl
abbrev Bd_ : (H : Type) → TypeId → DataW H → Prop := BdBulk
theorem Z_ : Sizes Try.prog Bd_ (fun _ n => n ≤ 1048576) (fun n => n ≤ 1048576) := sizesBulk Try.prog
theorem opens33 : Opens Try.prog Bd_ 33 k33 GEl33 :=
  Opens.iso (fun x : S33 => (x.f0, x.f1, x.f2)) (fun y_ => ⟨y_.1, y_.2.1, y_.2.2⟩) (fun _ => rfl) (Opens.struct Z_ Try.underlying33 (by kernel_rfl) (OpensFs.cons rfl (by kernel_rfl) (Opens.int (P := Try.prog) Try.underlying3) (OpensFs.cons rfl (by kernel_rfl) (Opens.int (P := Try.prog) Try.underlying3) (OpensFs.one rfl (by kernel_rfl) (Opens.string Z_ Try.underlying9)))))
set_option maxRecDepth 100000 in
theorem lifted (os : Os) (started : os.Started) (H : Type) (enc : TypeId × Value → H) (F : Stop.Interp) :
    ReturnsInHanded {} Try.checked os 10 .any ((Rows.OpenSpec.upto Rows.entriesKeepSpec).pre6 enc Try.prog Try.f10 Rows.entriesKeepUptoRow.domain false) (((Rows.OpenSpec.upto Rows.entriesKeepSpec).at F).post enc Try.prog Try.f10 false true false false) := by
  refine returnsInHanded_of_cond (C := Try.checked) (s := Rows.OpenSpec.upto Rows.entriesKeepSpec) (k := Rows.uptoSmall) rfl own started (by kernel_rfl) Try.func10
    (OpenSpec.witness (enc := enc) (C := Try.checked) (s := Rows.OpenSpec.upto Rows.entriesKeepSpec) (k := Rows.uptoSmall) rfl false ⟨#[], #[.agg #[.int .i64 0, .int .i64 0, .slice none 0 0, .int .i64 0], .agg #[.int .i64 0, .int .i64 0, .slice none 0 0, .int .i64 0]], []⟩ 8 (by kernel_rfl) (by kernel_rfl) (by kernel_rfl)
      (x := ([.agg [.agg [.lit (.int .i64 0), .lit (.int .i64 0)], .nil, .lit (.int .i64 0)], .agg [.agg [.lit (.int .i64 0), .lit (.int .i64 0)], .nil, .lit (.int .i64 0)]], [], [])) (by kernel_rfl) rfl (by kernel_rfl)) ?_
  intro W base args ds gs before hval0 hW _ hsz0 _
  have hval : ∀ (j : Nat) t v, Try.f10.params[j]? = some t → args[j]? = some v → Value.okWide Try.prog W .any base t v := hval0
  have hW' := hW
  obtain ⟨p, q, hA0, hV, rfl, hfz, hnd⟩ := hW
  have hA : DataW.TrodAll enc Try.prog W 0 (fun _ => true) true Try.f10.params.toList args.toList ds p := hA0
  have hsz : Rows.uptoSmall H (ds ++ gs) = true := hsz0
  rw [Try.params10] at hA hval
  obtain ⟨v0, vs0, d0, ds0, p0, q0, hargs, rfl, rfl, h0, r0⟩ := trodAll_cons hA
  obtain ⟨v1, vs1, d1, ds1, p1, q1, rfl, rfl, rfl, h1, r1⟩ := trodAll_cons r0
  obtain ⟨rfl, rfl, rfl⟩ := trodAll_nil r1
  obtain rfl : args = #[v0, v1] := by cases args; simp_all
  obtain ⟨rfl, rfl⟩ := trodVars_none hV
  obtain ⟨cs0, rfl, hsz0⟩ := okWide_struct Try.underlying26 (hval 0 26 v0 rfl rfl)
  have k0 := h0
  have lt0 : ∀ x ∈ p0, x.block < W.heap.size := by obtain ⟨m, hm⟩ := k0; exact DataW.trod_lt m _ _ _ hm
  obtain ⟨fu0, hf0⟩ := h0
  obtain ⟨cl0, rfl⟩ : ∃ l, cs0 = List.toArray l := ⟨cs0.toList, by simp⟩
  replace hf0 : DataW.trod enc Try.prog W 0 (fun _ => true) true fu0 26 cl0 = some (d0, p0) := by simpa [Value.cells] using hf0
  obtain ⟨⟨⟨a0_0, a0_1⟩, l0_2, a0_3⟩, hK0, hG0⟩ := (Opens.struct Z_ Try.underlying26 (by kernel_rfl) (OpensFs.cons rfl (by kernel_rfl) (Opens.struct Z_ Try.underlying23 (by kernel_rfl) (OpensFs.cons rfl (by kernel_rfl) (Opens.int (P := Try.prog) Try.underlying3) (OpensFs.one rfl (by kernel_rfl) (Opens.int (P := Try.prog) Try.underlying3)))) (OpensFs.cons rfl (by kernel_rfl) (Opens.slice Z_ (S' := fun n_ => n_ ≤ 1048576) (fun n_ h_ => h_) Try.underlying24 (by kernel_rfl) opens33) (OpensFs.one rfl (by kernel_rfl) (Opens.int (P := Try.prog) Try.underlying3))))).go H enc W 0 (fun _ => true) true fu0 _ _ hf0 (bulk_arg hsz (d := d0) (by simp) 26)
  obtain ⟨_, _, rfl, ⟨_, _, rfl, rfl, rfl⟩, ⟨_, _, rfl, ⟨A0_2, c0_2, rfl, hc0_2, hr0_2⟩, rfl⟩⟩ := hK0
  obtain ⟨⟨hg0_0, hg0_1⟩, ⟨hg0_2, hg0_3⟩⟩ := hG0
  obtain ⟨cs1, rfl, hsz1⟩ := okWide_struct Try.underlying41 (hval 1 41 v1 rfl rfl)
  have k1 := h1
  have lt1 : ∀ x ∈ p1, x.block < W.heap.size := by obtain ⟨m, hm⟩ := k1; exact DataW.trod_lt m _ _ _ hm
  obtain ⟨fu1, hf1⟩ := h1
  obtain ⟨cl1, rfl⟩ : ∃ l, cs1 = List.toArray l := ⟨cs1.toList, by simp⟩
  replace hf1 : DataW.trod enc Try.prog W 0 (fun _ => true) true fu1 41 cl1 = some (d1, p1) := by simpa [Value.cells] using hf1
  obtain ⟨⟨⟨a1_0, a1_1⟩, l1_2, a1_3⟩, hK1, hG1⟩ := (Opens.struct Z_ Try.underlying41 (by kernel_rfl) (OpensFs.cons rfl (by kernel_rfl) (Opens.struct Z_ Try.underlying23 (by kernel_rfl) (OpensFs.cons rfl (by kernel_rfl) (Opens.int (P := Try.prog) Try.underlying3) (OpensFs.one rfl (by kernel_rfl) (Opens.int (P := Try.prog) Try.underlying3)))) (OpensFs.cons rfl (by kernel_rfl) (Opens.slice Z_ (S' := fun n_ => n_ ≤ 1048576) (fun n_ h_ => h_) Try.underlying24 (by kernel_rfl) opens33) (OpensFs.one rfl (by kernel_rfl) (Opens.int (P := Try.prog) Try.underlying3))))).go H enc W 0 (fun _ => true) true fu1 _ _ hf1 (bulk_arg hsz (d := d1) (by simp) 41)
  obtain ⟨_, _, rfl, ⟨_, _, rfl, rfl, rfl⟩, ⟨_, _, rfl, ⟨A1_2, c1_2, rfl, hc1_2, hr1_2⟩, rfl⟩⟩ := hK1
  obtain ⟨⟨hg1_0, hg1_1⟩, ⟨hg1_2, hg1_3⟩⟩ := hG1
  have hp := Go.Proofs.Ytiebeiloooblpaa.Pure.EntriesKeep a0_0 a0_1 l0_2 a0_3 a1_0 a1_1 l1_2 a1_3 hg0_0 hg0_1 hg0_2 hg0_3 hg1_0 hg1_1 hg1_2 hg1_3
  obtain ⟨kr, hp⟩ := hp
  refine (rialtolaw08_EntriesKeep.calls kr a0_0 a0_1 A0_2 c0_2 l0_2 a0_3 a1_0 a1_1 A1_2 c1_2 l1_2 a1_3 true W hr0_2 hc0_2 hr1_2 hc1_2 hp).mono fun e W' he => ?_
  obtain ⟨he, bel⟩ := he
  subst he
  exact ⟨_, rfl, _, _, _, [], _, [], hW', trodAll_mk1 (shut_bool Try.underlying4 _), (trodAll_cons_mk (Below.trod laidOut (by kernel_rfl) (of_decide_eq_true (by kernel_rfl)) k0 bel lt0) (trodAll_cons_mk (Below.trod laidOut (by kernel_rfl) (of_decide_eq_true (by kernel_rfl)) k1 bel lt1) trodAll_mk0)), rfl, bel.frame _, fun h => by cases h⟩
theorem over : Rows.entriesKeepUptoRow.holds Try.pinned (Rows.OpenSpec.upto Rows.entriesKeepSpec) :=
  OpenClaim.holds_of_cond 10 Try.f10 rfl rfl rfl rfl rfl rfl rfl ⟨rfl, rfl, rfl, rfl, rfl⟩ rfl rfl rfl rfl rfl (by kernel_rfl) Try.func10 (by kernel_rfl)
    (of_decide_eq_true (by kernel_rfl)) (by unfold Func.isWrapper; first | (rw [if_pos (by decide +kernel)]; kernel_rfl) | (rw [if_neg (by decide +kernel)]; exact ⟨rfl, rfl⟩))
    (fun os started H enc _ F => lifted os started H enc F)
theorem proved : Rows.EntriesKeepUptoSaid := over
#print axioms proved
end Go.Proofs.Ytiebeiloooblpaa.entriesKeep
namespace Go.Proofs.Ytiebeiloooblpaa
/-- The row, under a short name, for the claim. -/
theorem entriesKeep_holds : Rows.EntriesKeepUptoSaid := entriesKeep.proved
end Go.Proofs.Ytiebeiloooblpaa

