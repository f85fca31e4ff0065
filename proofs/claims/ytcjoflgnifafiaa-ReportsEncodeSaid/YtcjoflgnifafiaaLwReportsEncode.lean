/-
  Written by cc3.py: the frame of a law: what is left to show is that the plain function is true.
-/
import Derived.Test.YtcjoflgnifafiaaOp
namespace Go.Proofs.Ytcjoflgnifafiaa
open Go.ChangeShapes Go.WideShapes Go.ChangeAt Go.RowKit

set_option maxRecDepth 100000 in
theorem reportsEncode_lifted (hF : ∀ (a0 : List S_Diagnostic) (a1 : Int) (a2 : List Int) (a3 : List Int), wfL S_Diagnostic.wf a0 → wfI .i64 a1 → wfL (wfI .u8) a2 → wfL (wfI .i64) a3 → F_law39_ReportsEncode a0 a1 a2 a3 = some true) (os : Os) (started : os.Started) (H : Type) (enc : TypeId × Value → H) :
    ReturnsInHanded {} Try.checked os 9 .any (Rows.reportsEncodeSpec.pre6 enc Try.prog Try.f9 Rows.reportsEncodeRow.domain false) (Rows.reportsEncodeSpec.post enc Try.prog Try.f9 false true false false) := by
  refine returnsInHanded_of_change_sized (C := Try.checked) own started (by kernel_rfl) Try.func9
    (ChangeSpec.witness6 (enc := enc) (C := Try.checked) false ⟨#[], #[.slice none 0 0, .int .i64 0, .slice none 0 0, .slice none 0 0], []⟩ 8 (by kernel_rfl) (by kernel_rfl) (by kernel_rfl) (by kernel_rfl)) ?_
  intro W base args ds gs before hval0 hW hcnd hsz0 _
  have hval : ∀ (j : Nat) t v, Try.f9.params[j]? = some t → args[j]? = some v → Value.okWide Try.prog W .any base t v := hval0
  have hW' := hW
  obtain ⟨p, q, hA0, hV, rfl, hfz, hnd⟩ := hW
  have hA : DataW.TrodAll enc Try.prog W 0 (fun _ => true) true Try.f9.params.toList args.toList ds p := hA0
  have hAll := hA
  rw [Try.params9] at hA hval hAll
  obtain ⟨v0, vs0, d0, ds0, p0, q0, hargs, rfl, rfl, h0, r0⟩ := trodAll_cons hA
  obtain ⟨v1, vs1, d1, ds1, p1, q1, rfl, rfl, rfl, h1, r1⟩ := trodAll_cons r0
  obtain ⟨v2, vs2, d2, ds2, p2, q2, rfl, rfl, rfl, h2, r2⟩ := trodAll_cons r1
  obtain ⟨v3, vs3, d3, ds3, p3, q3, rfl, rfl, rfl, h3, r3⟩ := trodAll_cons r2
  obtain ⟨rfl, rfl, rfl⟩ := trodAll_nil r3
  obtain rfl : args = #[v0, v1, v2, v3] := by cases args; simp_all
  obtain ⟨rfl, rfl⟩ := trodVars_none hV
  obtain ⟨x0, hR0, w0⟩ := open_slc (opens_slice (sz := 3) Try.underlying47 (by kernel_rfl) opens_S_Diagnostic (fun _ => by kernel_rfl) (by kernel_rfl)) Try.underlying47 (hval 0 47 v0 rfl rfl) h0
  obtain ⟨x1, rfl, rfl, rfl, w1⟩ := open_int Try.underlying3 (hval 1 3 v1 rfl rfl) h1
  obtain ⟨x2, hR2, w2⟩ := open_slc (opens_slice (sz := 1) Try.underlying27 (by kernel_rfl) (opens_int (k := .u8) Try.underlying5) (fun _ => by kernel_rfl) (by kernel_rfl)) Try.underlying27 (hval 2 27 v2 rfl rfl) h2
  obtain ⟨x3, hR3, w3⟩ := open_slc (opens_slice (sz := 1) Try.underlying24 (by kernel_rfl) (opens_int (k := .i64) Try.underlying3) (fun _ => by kernel_rfl) (by kernel_rfl)) Try.underlying24 (hval 3 24 v3 rfl rfl) h3
  clear hA0 hval0 hsz0
  refine (con_true (us := [v0, .int .i64 x1, v2, v3]) (ok_law39_ReportsEncode x0 x1 x2 x3 true (hF x0 x1 x2 x3 w0 w1 w2 w3)) ⟨hR0, vrel_lit _ _ _, hR2, hR3, trivial⟩).mono fun e W' ⟨he, hx⟩ => ?_
  subst he
  have bel := hx.below
  exact ⟨_, rfl, _, _, _, [], _, [], hW', trodAll_mk1 (shut_bool Try.underlying4 _), trodAll_below laidOut bel (by kernel_rfl) hAll, rfl, bel.frame _, fun h => by cases h⟩

theorem reportsEncode_of (hF : ∀ (a0 : List S_Diagnostic) (a1 : Int) (a2 : List Int) (a3 : List Int), wfL S_Diagnostic.wf a0 → wfI .i64 a1 → wfL (wfI .u8) a2 → wfL (wfI .i64) a3 → F_law39_ReportsEncode a0 a1 a2 a3 = some true) : Rows.ReportsEncodeSaid :=
  OpenClaim.holds_of_wide 9 Try.f9 rfl rfl rfl rfl rfl rfl rfl ⟨rfl, rfl, rfl, rfl, rfl⟩ rfl rfl rfl rfl rfl (by kernel_rfl) Try.func9 (by kernel_rfl)
    (of_decide_eq_true (by kernel_rfl)) (by unfold Func.isWrapper; first | (rw [if_pos (by decide +kernel)]; kernel_rfl) | (rw [if_neg (by decide +kernel)]; exact ⟨rfl, rfl⟩))
    (fun os started H enc _ => reportsEncode_lifted hF os started H enc)

end Go.Proofs.Ytcjoflgnifafiaa
