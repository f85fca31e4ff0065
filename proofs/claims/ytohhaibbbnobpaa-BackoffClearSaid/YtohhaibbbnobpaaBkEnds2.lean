/-
  BackoffEnds, BackoffPlays, BackoffClear, BackoffFails.
-/
import Derived.Test.YtohhaibbbnobpaaBkLaws
namespace Go.Proofs.Ytohhaibbbnobpaa
open Go.ChangeShapes Go.WideShapes Go.ChangeAt Go.RowKit

theorem step_all (s : Bk) (b : Bool) (d : Int) (h : s.Valid) : (s.step b d).Valid ∧ pot (s.step b d) ≤ max 0 (pot s - 1) := by
  have hp := pot_nonneg s h
  have hst : s.st = 1 ∨ s.st = 2 ∨ s.st = 3 ∨ s.st = 4 := by have := h; simp only [Bk.Valid] at this; omega
  rcases hst with e | e | e
  · have k := step_one s b d h e
    exact ⟨k.1, by omega⟩
  · cases b
    · have k := step_clear s d h e
      exact ⟨k.1, by omega⟩
    · have k := step_busy s d h e
      exact ⟨k.1, by omega⟩
  · rw [step_keep s b d h e]
    refine ⟨h, ?_⟩
    have : pot s = 0 := by unfold pot; rw [if_neg (by omega), if_neg (by omega)]
    omega
theorem ended_of_pot (s : Bk) (h : s.Valid) (hp : pot s ≤ 0) : s.st = 3 ∨ s.st = 4 := by
  have hv := h
  simp only [Bk.Valid] at hv
  unfold pot restB at hp
  have hst : s.st = 1 ∨ s.st = 2 ∨ s.st = 3 ∨ s.st = 4 := by omega
  rcases hst with e | e | e
  · rw [if_pos e] at hp
    split at hp
    · omega
    · split at hp
      · omega
      · split at hp
        · omega
        · split at hp <;> omega
  · rw [if_neg (by omega), if_pos e] at hp
    split at hp
    · omega
    · split at hp
      · omega
      · split at hp
        · omega
        · split at hp <;> omega
  · exact e

theorem ends_true (xs ys : List Int) (hx : ∀ z ∈ xs, (Lit.int .u32 z).wf = true) : F_law08_BackoffEnds xs ys = some true := by
  unfold F_law08_BackoffEnds
  have h0 := at_bd hx 0
  rw [at_eq xs 0 (by decide)]
  simp only [Option.bind_some, Int.toNat_zero]
  rw [begin_eq _ h0.1 h0.2]
  simp only [Option.bind_some]
  have hb := begin_valid (xs.getD 0 0)
  obtain ⟨r, hr, b, rfl, hv, hp⟩ := loop_inv (step := F_law08_BackoffEnds_l1 ys xs) (fun s => ∃ (k : Nat) (b : Bk), s = ((k : Int), sb b) ∧ k ≤ 125 ∧ b.Valid ∧ pot b ≤ 125 - k) (fun r => ∃ b, r = sb b ∧ b.Valid ∧ pot b ≤ 0) (fun s => (125 - s.1).toNat) (by
    rintro _ ⟨k, b, rfl, hk, hv, hp⟩
    by_cases hlt : k < 125
    · left
      have hd := at_bd hx (k + 1)
      have hs := step_all b (busyB ys k) (xs.getD (k + 1) 0) hv
      refine ⟨(((k + 1 : Nat) : Int), sb (b.step (busyB ys k) (xs.getD (k + 1) 0))), ?_, ⟨k + 1, _, rfl, by omega, hs.1, by have := hs.2; omega⟩, by dsimp only; omega⟩
      unfold F_law08_BackoffEnds_l1
      dsimp only
      rw [show decide ((k : Int) < 125) = true by simp; omega, busy_eq ys k (by omega)]
      simp only [cond_true, Option.bind_some]
      rw [wi (by omega) (by omega), at_eq xs _ (by omega)]
      simp only [Option.bind_some]
      have e : ((k : Int) + 1).toNat = k + 1 := by omega
      rw [e, step_eq _ _ _ hd.1 hd.2]
      simp only [Option.bind_some, bk_sb]
      rfl
    · right
      obtain rfl : k = 125 := by omega
      exact ⟨sb b, by unfold F_law08_BackoffEnds_l1; rfl, b, rfl, hv, by omega⟩) (0, sb (beginB (xs.getD 0 0))) ⟨0, _, rfl, by omega, hb.1, hb.2.1⟩
  rw [hr]
  simp only [Option.bind_some]
  rw [known_eq]
  simp only [Option.bind_some, cond_true]
  have he := ended_of_pot b hv hp
  rw [ended_eq, show endedB (bk (sb b)) = true from decide_eq_true ⟨hv, he⟩]
  simp only [Option.bind_some, cond_true]
  rw [step_eq _ _ _ (by decide) (by decide), bk_sb, step_keep b true 5 hv he]
  simp only [Option.bind_some, eqb_self, cond_true]
  rw [step_eq _ _ _ (by decide) (by decide), bk_sb, step_keep b false 6 hv he]
  simp only [Option.bind_some, eqb_self]

theorem ends_calls {W : World} {v0 v1 : Value} {xs ys : List Int} (h0 : VRel (rdAll W) env0 v0 (.c (.slc 1 0 (List.map (ecI .u32) xs)))) (h1 : VRel (rdAll W) env0 v1 (.c (.slc 1 0 (List.map (ecI .u8) ys)))) (hx : ∀ z ∈ xs, (Lit.int .u32 z).wf = true) :
    Calls Try.prog 5 #[v0, v1] W fun e w' => e = .returned (.bool true) ∧ Ext W w' :=
  pure_true (ok_law08_BackoffEnds xs ys true (ends_true xs ys hx)) rfl (args2 h0 h1)
set_option maxRecDepth 100000 in
theorem backoffEnds_lifted (os : Os) (started : os.Started) (H : Type) (enc : TypeId × Value → H) :
    ReturnsInHanded {} Try.checked os 5 .any (Rows.backoffEndsSpec.pre6 enc Try.prog Try.f5 Rows.backoffEndsRow.domain false) (Rows.backoffEndsSpec.post enc Try.prog Try.f5 false true false false) := by
  refine returnsInHanded_of_change_sized (C := Try.checked) own started (by kernel_rfl) Try.func5
    (ChangeSpec.witness6 (enc := enc) (C := Try.checked) false ⟨#[], #[.slice none 0 0, .slice none 0 0], []⟩ 8 (by kernel_rfl) (by kernel_rfl) (by kernel_rfl) (by kernel_rfl)) ?_
  intro W base args ds gs before hval0 hW hcnd hsz0 _
  have hval : ∀ (j : Nat) t v, Try.f5.params[j]? = some t → args[j]? = some v → Value.okWide Try.prog W .any base t v := hval0
  have hsz : (DataW.weightsEach Try.prog (Try.f5.params.toList ++ Rows.backoffEndsSpec.plain.varTypes Try.prog) (ds ++ gs)).all (· ≤ reachBytes) = true := hsz0
  have hW' := hW
  obtain ⟨p, q, hA0, hV, rfl, hfz, hnd⟩ := hW
  have hA : DataW.TrodAll enc Try.prog W 0 (fun _ => true) true Try.f5.params.toList args.toList ds p := hA0
  have hAll := hA
  rw [Try.params5] at hA hval hsz hAll
  obtain ⟨v0, vs0, d0, ds0, p0, q0, hargs, rfl, rfl, h0, r0⟩ := trodAll_cons hA
  obtain ⟨v1, vs1, d1, ds1, p1, q1, rfl, rfl, rfl, h1, r1⟩ := trodAll_cons r0
  obtain ⟨rfl, rfl, rfl⟩ := trodAll_nil r1
  obtain rfl : args = #[v0, v1] := by cases args; simp_all
  obtain ⟨rfl, rfl⟩ := trodVars_none hV
  obtain ⟨xs0, hR0, hwf0, hln0⟩ := open_intsS Try.underlying36 Try.underlying25 (by kernel_rfl) (by kernel_rfl : Try.prog.bytesOf 25 = 4) (by decide) (hval 0 36 v0 rfl rfl) h0 hsz (j := 0) rfl rfl
  obtain ⟨xs1, hR1, hwf1, hln1⟩ := open_intsS Try.underlying37 Try.underlying5 (by kernel_rfl) (by kernel_rfl : Try.prog.bytesOf 5 = 1) (by decide) (hval 1 37 v1 rfl rfl) h1 hsz (j := 1) rfl rfl
  clear hA0 hval0 hsz0
  refine (ends_calls hR0 hR1 hwf0).mono fun e W' ⟨he, hx⟩ => ?_
  subst he
  have bel := hx.below
  exact ⟨_, rfl, _, _, _, [], _, [], hW', trodAll_mk1 (shut_bool Try.underlying4 _), trodAll_below laidOut bel (by kernel_rfl) hAll, rfl, bel.frame _, fun h => by cases h⟩

theorem backoffEnds_holds : Rows.BackoffEndsSaid :=
  OpenClaim.holds_of_wide 5 Try.f5 rfl rfl rfl rfl rfl rfl rfl ⟨rfl, rfl, rfl, rfl, rfl⟩ rfl rfl rfl rfl rfl (by kernel_rfl) Try.func5 (by kernel_rfl)
    (of_decide_eq_true (by kernel_rfl)) (by unfold Func.isWrapper; first | (rw [if_pos (by decide +kernel)]; kernel_rfl) | (rw [if_neg (by decide +kernel)]; exact ⟨rfl, rfl⟩))
    (fun os started H enc _ => backoffEnds_lifted os started H enc)
#print axioms backoffEnds_holds
end Go.Proofs.Ytohhaibbbnobpaa
