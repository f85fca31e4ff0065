/-
  Written by cc3.py: the frame of a law: what is left to show is that the plain function is true.
-/
import Derived.Test.YtbncbjblbdjddaaOp
namespace Go.Proofs.Ytbncbjblbdjddaa
open Go.ChangeShapes Go.WideShapes Go.ChangeAt Go.RowKit

set_option maxRecDepth 100000 in
theorem siphashDerives_lifted (hF : ∀ (a0 : List Int) (a1 : List UInt8) (a2 : Int), wfA .u8 16 a0 → wfStr a1 → wfI .u64 a2 → F_law03_SiphashDerives a0 a1 a2 = some true) (os : Os) (started : os.Started) (H : Type) (enc : TypeId × Value → H) :
    ReturnsInHanded {} Try.checked os 7 .any (Rows.siphashDerivesSpec.pre6 enc Try.prog Try.f7 Rows.siphashDerivesRow.domain false) (Rows.siphashDerivesSpec.post enc Try.prog Try.f7 false true false false) := by
  refine returnsInHanded_of_change_sized (C := Try.checked) own started (by kernel_rfl) Try.func7
    (ChangeSpec.witness6 (enc := enc) (C := Try.checked) false ⟨#[], #[.agg #[.int .u8 0, .int .u8 0, .int .u8 0, .int .u8 0, .int .u8 0, .int .u8 0, .int .u8 0, .int .u8 0, .int .u8 0, .int .u8 0, .int .u8 0, .int .u8 0, .int .u8 0, .int .u8 0, .int .u8 0, .int .u8 0], .string ByteArray.empty, .int .u64 0], []⟩ 8 (by kernel_rfl) (by kernel_rfl) (by kernel_rfl) (by kernel_rfl)) ?_
  intro W base args ds gs before hval0 hW hcnd hsz0 _
  have hval : ∀ (j : Nat) t v, Try.f7.params[j]? = some t → args[j]? = some v → Value.okWide Try.prog W .any base t v := hval0
  have hW' := hW
  obtain ⟨p, q, hA0, hV, rfl, hfz, hnd⟩ := hW
  have hA : DataW.TrodAll enc Try.prog W 0 (fun _ => true) true Try.f7.params.toList args.toList ds p := hA0
  have hAll := hA
  rw [Try.params7] at hA hval hAll
  obtain ⟨v0, vs0, d0, ds0, p0, q0, hargs, rfl, rfl, h0, r0⟩ := trodAll_cons hA
  obtain ⟨v1, vs1, d1, ds1, p1, q1, rfl, rfl, rfl, h1, r1⟩ := trodAll_cons r0
  obtain ⟨v2, vs2, d2, ds2, p2, q2, rfl, rfl, rfl, h2, r2⟩ := trodAll_cons r1
  obtain ⟨rfl, rfl, rfl⟩ := trodAll_nil r2
  obtain rfl : args = #[v0, v1, v2] := by cases args; simp_all
  obtain ⟨rfl, rfl⟩ := trodVars_none hV
  obtain ⟨x0, hR0, w0⟩ := open_arrR (opens_arr (n := 16) (k := .u8) Try.underlying23 Try.underlying5 (by kernel_rfl) (by kernel_rfl)).r Try.underlying23 (hval 0 23 v0 rfl rfl) h0 (wt_of hsz0 (j := 0) (by kernel_rfl) rfl)
  obtain ⟨x1, hR1, w1⟩ := open_strR (opens_strR Try.underlying9) Try.underlying9 (hval 1 9 v1 rfl rfl) h1 (wt_of hsz0 (j := 1) (by kernel_rfl) rfl)
  obtain ⟨x2, rfl, rfl, rfl, w2⟩ := open_int Try.underlying26 (hval 2 26 v2 rfl rfl) h2
  clear hA0 hval0 hsz0
  refine (con_true (us := [v0, v1, .int .u64 x2]) (ok_law03_SiphashDerives x0 x1 x2 true (hF x0 x1 x2 w0 w1 w2)) ⟨hR0, hR1, vrel_lit _ _ _, trivial⟩).mono fun e W' ⟨he, hx⟩ => ?_
  subst he
  have bel := hx.below
  exact ⟨_, rfl, _, _, _, [], _, [], hW', trodAll_mk1 (shut_bool Try.underlying4 _), trodAll_below laidOut bel (by kernel_rfl) hAll, rfl, bel.frame _, fun h => by cases h⟩

theorem siphashDerives_of (hF : ∀ (a0 : List Int) (a1 : List UInt8) (a2 : Int), wfA .u8 16 a0 → wfStr a1 → wfI .u64 a2 → F_law03_SiphashDerives a0 a1 a2 = some true) : Rows.SiphashDerivesSaid :=
  OpenClaim.holds_of_wide 7 Try.f7 rfl rfl rfl rfl rfl rfl rfl ⟨rfl, rfl, rfl, rfl, rfl⟩ rfl rfl rfl rfl rfl (by kernel_rfl) Try.func7 (by kernel_rfl)
    (of_decide_eq_true (by kernel_rfl)) (by unfold Func.isWrapper; first | (rw [if_pos (by decide +kernel)]; kernel_rfl) | (rw [if_neg (by decide +kernel)]; exact ⟨rfl, rfl⟩))
    (fun os started H enc _ => siphashDerives_lifted hF os started H enc)

end Go.Proofs.Ytbncbjblbdjddaa
