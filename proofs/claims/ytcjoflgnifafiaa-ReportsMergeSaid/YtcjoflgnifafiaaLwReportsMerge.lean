/-
  Written by cc3.py: the frame of a law: what is left to show is that the plain function is true.
-/
import Derived.Test.YtcjoflgnifafiaaOp
namespace Go.Proofs.Ytcjoflgnifafiaa
open Go.ChangeShapes Go.WideShapes Go.ChangeAt Go.RowKit

set_option maxRecDepth 100000 in
theorem reportsMerge_lifted (hF : ∀ (a0 : List S_Diagnostic) (a1 : List S_Diagnostic) (a2 : S_Diagnostic) (a3 : List Int), wfL S_Diagnostic.wf a0 → wfL S_Diagnostic.wf a1 → S_Diagnostic.wf a2 → wfL (wfI .i64) a3 → F_law39_ReportsMerge a0 a1 a2 a3 = some true) (os : Os) (started : os.Started) (H : Type) (enc : TypeId × Value → H) :
    ReturnsInHanded {} Try.checked os 7 .any (Rows.reportsMergeSpec.pre6 enc Try.prog Try.f7 Rows.reportsMergeRow.domain false) (Rows.reportsMergeSpec.post enc Try.prog Try.f7 false true false false) := by
  refine returnsInHanded_of_change_sized (C := Try.checked) own started (by kernel_rfl) Try.func7
    (ChangeSpec.witness6 (enc := enc) (C := Try.checked) false ⟨#[], #[.slice none 0 0, .slice none 0 0, .agg #[.int .u64 0, .int .i64 0, .slice none 0 0], .slice none 0 0], []⟩ 8 (by kernel_rfl) (by kernel_rfl) (by kernel_rfl) (by kernel_rfl)) ?_
  intro W base args ds gs before hval0 hW hcnd hsz0 _
  have hval : ∀ (j : Nat) t v, Try.f7.params[j]? = some t → args[j]? = some v → Value.okWide Try.prog W .any base t v := hval0
  have hW' := hW
  obtain ⟨p, q, hA0, hV, rfl, hfz, hnd⟩ := hW
  have hA : DataW.TrodAll enc Try.prog W 0 (fun _ => true) true Try.f7.params.toList args.toList ds p := hA0
  have hAll := hA
  rw [Try.params7] at hA hval hAll
  obtain ⟨v0, vs0, d0, ds0, p0, q0, hargs, rfl, rfl, h0, r0⟩ := trodAll_cons hA
  obtain ⟨v1, vs1, d1, ds1, p1, q1, rfl, rfl, rfl, h1, r1⟩ := trodAll_cons r0
  obtain ⟨v2, vs2, d2, ds2, p2, q2, rfl, rfl, rfl, h2, r2⟩ := trodAll_cons r1
  obtain ⟨v3, vs3, d3, ds3, p3, q3, rfl, rfl, rfl, h3, r3⟩ := trodAll_cons r2
  obtain ⟨rfl, rfl, rfl⟩ := trodAll_nil r3
  obtain rfl : args = #[v0, v1, v2, v3] := by cases args; simp_all
  obtain ⟨rfl, rfl⟩ := trodVars_none hV
  obtain ⟨x0, hR0, w0⟩ := open_slc (opens_slice (sz := 3) Try.underlying47 (by kernel_rfl) opens_S_Diagnostic (fun _ => by kernel_rfl) (by kernel_rfl)) Try.underlying47 (hval 0 47 v0 rfl rfl) h0
  obtain ⟨x1, hR1, w1⟩ := open_slc (opens_slice (sz := 3) Try.underlying47 (by kernel_rfl) opens_S_Diagnostic (fun _ => by kernel_rfl) (by kernel_rfl)) Try.underlying47 (hval 1 47 v1 rfl rfl) h1
  obtain ⟨x2, hR2, w2⟩ := open_agg opens_S_Diagnostic Try.underlying56 (hval 2 56 v2 rfl rfl) h2
  obtain ⟨x3, hR3, w3⟩ := open_slc (opens_slice (sz := 1) Try.underlying24 (by kernel_rfl) (opens_int (k := .i64) Try.underlying3) (fun _ => by kernel_rfl) (by kernel_rfl)) Try.underlying24 (hval 3 24 v3 rfl rfl) h3
  clear hA0 hval0 hsz0
  refine (con_true (us := [v0, v1, v2, v3]) (ok_law39_ReportsMerge x0 x1 x2 x3 true (hF x0 x1 x2 x3 w0 w1 w2 w3)) ⟨hR0, hR1, hR2, hR3, trivial⟩).mono fun e W' ⟨he, hx⟩ => ?_
  subst he
  have bel := hx.below
  exact ⟨_, rfl, _, _, _, [], _, [], hW', trodAll_mk1 (shut_bool Try.underlying4 _), trodAll_below laidOut bel (by kernel_rfl) hAll, rfl, bel.frame _, fun h => by cases h⟩

theorem reportsMerge_of (hF : ∀ (a0 : List S_Diagnostic) (a1 : List S_Diagnostic) (a2 : S_Diagnostic) (a3 : List Int), wfL S_Diagnostic.wf a0 → wfL S_Diagnostic.wf a1 → S_Diagnostic.wf a2 → wfL (wfI .i64) a3 → F_law39_ReportsMerge a0 a1 a2 a3 = some true) : Rows.ReportsMergeSaid :=
  OpenClaim.holds_of_wide 7 Try.f7 rfl rfl rfl rfl rfl rfl rfl ⟨rfl, rfl, rfl, rfl, rfl⟩ rfl rfl rfl rfl rfl (by kernel_rfl) Try.func7 (by kernel_rfl)
    (of_decide_eq_true (by kernel_rfl)) (by unfold Func.isWrapper; first | (rw [if_pos (by decide +kernel)]; kernel_rfl) | (rw [if_neg (by decide +kernel)]; exact ⟨rfl, rfl⟩))
    (fun os started H enc _ => reportsMerge_lifted hF os started H enc)

end Go.Proofs.Ytcjoflgnifafiaa
