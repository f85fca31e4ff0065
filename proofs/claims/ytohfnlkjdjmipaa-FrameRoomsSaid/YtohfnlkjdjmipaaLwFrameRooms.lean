/-
  Written by cc3.py: the frame of a law: what is left to show is that the plain function is true.
-/
import Derived.Test.YtohfnlkjdjmipaaOp
namespace Go.Proofs.Ytohfnlkjdjmipaa
open Go.ChangeShapes Go.WideShapes Go.ChangeAt Go.RowKit

set_option maxRecDepth 100000 in
theorem frameRooms_lifted (hF : ∀ (a0 : List Int) (a1 : Int), wfR (wfI .i64) a0 → wfI .i64 a1 → F_law05_FrameRooms a0 a1 = some true) (os : Os) (started : os.Started) (H : Type) (enc : TypeId × Value → H) :
    ReturnsInHanded {} Try.checked os 8 .any (Rows.frameRoomsSpec.pre6 enc Try.prog Try.f8 Rows.frameRoomsRow.domain false) (Rows.frameRoomsSpec.post enc Try.prog Try.f8 false true false false) := by
  refine returnsInHanded_of_change_sized (C := Try.checked) own started (by kernel_rfl) Try.func8
    (ChangeSpec.witness6 (enc := enc) (C := Try.checked) false ⟨#[], #[.slice none 0 0, .int .i64 0], []⟩ 8 (by kernel_rfl) (by kernel_rfl) (by kernel_rfl) (by kernel_rfl)) ?_
  intro W base args ds gs before hval0 hW hcnd hsz0 _
  have hval : ∀ (j : Nat) t v, Try.f8.params[j]? = some t → args[j]? = some v → Value.okWide Try.prog W .any base t v := hval0
  have hW' := hW
  obtain ⟨p, q, hA0, hV, rfl, hfz, hnd⟩ := hW
  have hA : DataW.TrodAll enc Try.prog W 0 (fun _ => true) true Try.f8.params.toList args.toList ds p := hA0
  have hAll := hA
  rw [Try.params8] at hA hval hAll
  obtain ⟨v0, vs0, d0, ds0, p0, q0, hargs, rfl, rfl, h0, r0⟩ := trodAll_cons hA
  obtain ⟨v1, vs1, d1, ds1, p1, q1, rfl, rfl, rfl, h1, r1⟩ := trodAll_cons r0
  obtain ⟨rfl, rfl, rfl⟩ := trodAll_nil r1
  obtain rfl : args = #[v0, v1] := by cases args; simp_all
  obtain ⟨rfl, rfl⟩ := trodVars_none hV
  obtain ⟨x0, hR0, w0⟩ := open_slcR (opens_sliceR (sz := 1) Try.underlying23 (by kernel_rfl) (opens_int (k := .i64) Try.underlying3).r (fun _ => by kernel_rfl) (by kernel_rfl) (by kernel_rfl)) Try.underlying23 (hval 0 23 v0 rfl rfl) h0 (wt_of hsz0 (j := 0) (by kernel_rfl) rfl)
  obtain ⟨x1, rfl, rfl, rfl, w1⟩ := open_int Try.underlying3 (hval 1 3 v1 rfl rfl) h1
  clear hA0 hval0 hsz0
  refine (con_true (us := [v0, .int .i64 x1]) (ok_law05_FrameRooms x0 x1 true (hF x0 x1 w0 w1)) ⟨hR0, vrel_lit _ _ _, trivial⟩).mono fun e W' ⟨he, hx⟩ => ?_
  subst he
  have bel := hx.below
  exact ⟨_, rfl, _, _, _, [], _, [], hW', trodAll_mk1 (shut_bool Try.underlying4 _), trodAll_below laidOut bel (by kernel_rfl) hAll, rfl, bel.frame _, fun h => by cases h⟩

theorem frameRooms_of (hF : ∀ (a0 : List Int) (a1 : Int), wfR (wfI .i64) a0 → wfI .i64 a1 → F_law05_FrameRooms a0 a1 = some true) : Rows.FrameRoomsSaid :=
  OpenClaim.holds_of_wide 8 Try.f8 rfl rfl rfl rfl rfl rfl rfl ⟨rfl, rfl, rfl, rfl, rfl⟩ rfl rfl rfl rfl rfl (by kernel_rfl) Try.func8 (by kernel_rfl)
    (of_decide_eq_true (by kernel_rfl)) (by unfold Func.isWrapper; first | (rw [if_pos (by decide +kernel)]; kernel_rfl) | (rw [if_neg (by decide +kernel)]; exact ⟨rfl, rfl⟩))
    (fun os started H enc _ => frameRooms_lifted hF os started H enc)

end Go.Proofs.Ytohfnlkjdjmipaa
