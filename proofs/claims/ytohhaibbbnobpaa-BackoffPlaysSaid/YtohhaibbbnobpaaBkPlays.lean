/-
  BackoffPlays.
-/
import Derived.Test.YtohhaibbbnobpaaBkEnds2
namespace Go.Proofs.Ytohhaibbbnobpaa
open Go.ChangeShapes Go.WideShapes Go.ChangeAt Go.RowKit


theorem plays_true (xs ys : List Int) (hx : ∀ z ∈ xs, (Lit.int .u32 z).wf = true) : F_law08_BackoffPlays xs ys = some true := by
  unfold F_law08_BackoffPlays
  have h0 := at_bd hx 0
  rw [at_eq xs 0 (by decide)]
  simp only [Option.bind_some, Int.toNat_zero]
  rw [begin_eq _ h0.1 h0.2, rbegin_eq _ h0.1 h0.2]
  simp only [Option.bind_some]
  have hb := begin_valid (xs.getD 0 0)
  obtain ⟨r, hr, b, rfl⟩ := loop_inv (step := F_law08_BackoffPlays_l1 ys xs) (fun s => ∃ (k : Nat) (b : Bk), s = ((k : Int), sb b, sb b) ∧ k ≤ 130 ∧ b.Valid) (fun r => ∃ b, r = Sum.inl (sb b, sb b)) (fun s => (130 - s.1).toNat) (by
    rintro _ ⟨k, b, rfl, hk, hv⟩
    by_cases hlt : k < 130
    · left
      have hd := at_bd hx (k + 1)
      have hs := step_all b (busyB ys k) (xs.getD (k + 1) 0) hv
      refine ⟨(((k + 1 : Nat) : Int), sb (b.step (busyB ys k) (xs.getD (k + 1) 0)), sb (b.step (busyB ys k) (xs.getD (k + 1) 0))), ?_, ⟨k + 1, _, rfl, by omega, hs.1⟩, by dsimp only; omega⟩
      unfold F_law08_BackoffPlays_l1
      dsimp only
      rw [show decide ((k : Int) < 130) = true by simp; omega, busy_eq ys k (by omega), eqb_self, valid_eq, show validB (bk (sb b)) = true from decide_eq_true hv]
      simp only [cond_true, Option.bind_some]
      rw [wi (by omega) (by omega), at_eq xs _ (by omega)]
      simp only [Option.bind_some]
      have e : ((k : Int) + 1).toNat = k + 1 := by omega
      rw [e, step_eq _ _ _ hd.1 hd.2, rstep_eq _ _ _ hd.1 hd.2]
      simp only [Option.bind_some, bk_sb]
      rfl
    · right
      obtain rfl : k = 130 := by omega
      exact ⟨Sum.inl (sb b, sb b), by unfold F_law08_BackoffPlays_l1; rfl, b, rfl⟩) (0, sb (beginB (xs.getD 0 0)), sb (beginB (xs.getD 0 0))) ⟨0, _, rfl, by omega, hb.1⟩
  rw [hr]
  simp only [Option.bind_some]
  rw [known_eq]
  simp only [Option.bind_some, cond_true, eqb_self]

theorem plays_calls {W : World} {v0 v1 : Value} {xs ys : List Int} (h0 : VRel (rdAll W) env0 v0 (.c (.slc 1 0 (List.map (ecI .u32) xs)))) (h1 : VRel (rdAll W) env0 v1 (.c (.slc 1 0 (List.map (ecI .u8) ys)))) (hx : ∀ z ∈ xs, (Lit.int .u32 z).wf = true) :
    Calls Try.prog 4 #[v0, v1] W fun e w' => e = .returned (.bool true) ∧ Ext W w' :=
  pure_true (ok_law08_BackoffPlays xs ys true (plays_true xs ys hx)) rfl (args2 h0 h1)
set_option maxRecDepth 100000 in
theorem backoffPlays_lifted (os : Os) (started : os.Started) (H : Type) (enc : TypeId × Value → H) :
    ReturnsInHanded {} Try.checked os 4 .any (Rows.backoffPlaysSpec.pre6 enc Try.prog Try.f4 Rows.backoffPlaysRow.domain false) (Rows.backoffPlaysSpec.post enc Try.prog Try.f4 false true false false) := by
  refine returnsInHanded_of_change_sized (C := Try.checked) own started (by kernel_rfl) Try.func4
    (ChangeSpec.witness6 (enc := enc) (C := Try.checked) false ⟨#[], #[.slice none 0 0, .slice none 0 0], []⟩ 8 (by kernel_rfl) (by kernel_rfl) (by kernel_rfl) (by kernel_rfl)) ?_
  intro W base args ds gs before hval0 hW hcnd hsz0 _
  have hval : ∀ (j : Nat) t v, Try.f4.params[j]? = some t → args[j]? = some v → Value.okWide Try.prog W .any base t v := hval0
  have hsz : (DataW.weightsEach Try.prog (Try.f4.params.toList ++ Rows.backoffPlaysSpec.plain.varTypes Try.prog) (ds ++ gs)).all (· ≤ reachBytes) = true := hsz0
  have hW' := hW
  obtain ⟨p, q, hA0, hV, rfl, hfz, hnd⟩ := hW
  have hA : DataW.TrodAll enc Try.prog W 0 (fun _ => true) true Try.f4.params.toList args.toList ds p := hA0
  have hAll := hA
  rw [Try.params4] at hA hval hsz hAll
  obtain ⟨v0, vs0, d0, ds0, p0, q0, hargs, rfl, rfl, h0, r0⟩ := trodAll_cons hA
  obtain ⟨v1, vs1, d1, ds1, p1, q1, rfl, rfl, rfl, h1, r1⟩ := trodAll_cons r0
  obtain ⟨rfl, rfl, rfl⟩ := trodAll_nil r1
  obtain rfl : args = #[v0, v1] := by cases args; simp_all
  obtain ⟨rfl, rfl⟩ := trodVars_none hV
  obtain ⟨xs0, hR0, hwf0, hln0⟩ := open_intsS Try.underlying36 Try.underlying25 (by kernel_rfl) (by kernel_rfl : Try.prog.bytesOf 25 = 4) (by decide) (hval 0 36 v0 rfl rfl) h0 hsz (j := 0) rfl rfl
  obtain ⟨xs1, hR1, hwf1, hln1⟩ := open_intsS Try.underlying37 Try.underlying5 (by kernel_rfl) (by kernel_rfl : Try.prog.bytesOf 5 = 1) (by decide) (hval 1 37 v1 rfl rfl) h1 hsz (j := 1) rfl rfl
  clear hA0 hval0 hsz0
  refine (plays_calls hR0 hR1 hwf0).mono fun e W' ⟨he, hx⟩ => ?_
  subst he
  have bel := hx.below
  exact ⟨_, rfl, _, _, _, [], _, [], hW', trodAll_mk1 (shut_bool Try.underlying4 _), trodAll_below laidOut bel (by kernel_rfl) hAll, rfl, bel.frame _, fun h => by cases h⟩

theorem backoffPlays_holds : Rows.BackoffPlaysSaid :=
  OpenClaim.holds_of_wide 4 Try.f4 rfl rfl rfl rfl rfl rfl rfl ⟨rfl, rfl, rfl, rfl, rfl⟩ rfl rfl rfl rfl rfl (by kernel_rfl) Try.func4 (by kernel_rfl)
    (of_decide_eq_true (by kernel_rfl)) (by unfold Func.isWrapper; first | (rw [if_pos (by decide +kernel)]; kernel_rfl) | (rw [if_neg (by decide +kernel)]; exact ⟨rfl, rfl⟩))
    (fun os started H enc _ => backoffPlays_lifted os started H enc)
#print axioms backoffPlays_holds
end Go.Proofs.Ytohhaibbbnobpaa
