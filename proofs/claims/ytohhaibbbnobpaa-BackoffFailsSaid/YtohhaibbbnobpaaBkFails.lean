/-
  BackoffFails.
-/
import Derived.Test.YtohhaibbbnobpaaBkEnds2
namespace Go.Proofs.Ytohhaibbbnobpaa
open Go.ChangeShapes Go.WideShapes Go.ChangeAt Go.RowKit


theorem fails_true (xs ys : List Int) (hx : ∀ z ∈ xs, (Lit.int .u32 z).wf = true) : F_law08_BackoffFails xs ys = some true := by
  unfold F_law08_BackoffFails
  have h0 := at_bd hx 0
  rw [at_eq xs 0 (by decide)]
  simp only [Option.bind_some, Int.toNat_zero]
  rw [begin_eq _ h0.1 h0.2]
  simp only [Option.bind_some]
  have hb := begin_valid (xs.getD 0 0)
  obtain ⟨r, hr, f, rfl, hf⟩ := loop_inv (step := F_law08_BackoffFails_l1 ys xs) (fun s => ∃ (k : Nat) (b : Bk), s = (b.bu, (k : Int), sb b) ∧ k ≤ 125 ∧ b.Valid) (fun r => ∃ f : Int, r = Sum.inl f ∧ f ≤ 5) (fun s => (125 - s.2.1).toNat) (by
    rintro _ ⟨k, b, rfl, hk, hv⟩
    have hv2 := hv
    simp only [Bk.Valid] at hv2
    by_cases hlt : k < 125
    · by_cases hend : b.st = 3 ∨ b.st = 4
      · right
        refine ⟨Sum.inl b.bu, ?_, b.bu, rfl, by omega⟩
        unfold F_law08_BackoffFails_l1
        dsimp only
        rw [show decide ((k : Int) < 125) = true by simp; omega, ended_eq, show endedB (bk (sb b)) = true from decide_eq_true ⟨hv, hend⟩]
        rfl
      · left
        have hd := at_bd hx (k + 1)
        have hen : endedB (bk (sb b)) = false := decide_eq_false (fun h => hend h.2)
        have j4 : ∀ (n : Int), (b.step (busyB ys k) (xs.getD (k + 1) 0)).bu = n → ((b.step (busyB ys k) (xs.getD (k + 1) 0)).st = 4 ↔ n = 5) → F_law08_BackoffFails_j4 ys (b.bu, (k : Int), sb b) xs n = some (Sum.inl ((b.step (busyB ys k) (xs.getD (k + 1) 0)).bu, ((k + 1 : Nat) : Int), sb (b.step (busyB ys k) (xs.getD (k + 1) 0)))) := by
          intro n hn hi
          unfold F_law08_BackoffFails_j4
          dsimp only
          rw [busy_eq ys k (by omega)]
          simp only [Option.bind_some]
          rw [wi (x := (k : Int) + 1) (by omega) (by omega), at_eq xs _ (by omega)]
          simp only [Option.bind_some]
          have e : ((k : Int) + 1).toNat = k + 1 := by omega
          rw [e, step_eq _ _ _ hd.1 hd.2]
          simp only [Option.bind_some, bk_sb]
          generalize b.step (busyB ys k) (xs.getD (k + 1) 0) = u at *
          dsimp only [sb]
          rw [show (u.bu != n) = false by simp [hn], show ((u.st == 4) == (n == 5)) = true by
            rw [show (u.st == 4) = (n == 5) from Bool.eq_iff_iff.2 (by simpa using hi)]; simp]
          simp only [cond_true, cond_false, hn]
          rfl
        have hst : b.st = 1 ∨ b.st = 2 := by omega
        rcases hst with e | e
        · have ks := step_one b (busyB ys k) (xs.getD (k + 1) 0) hv e
          refine ⟨_, ?_, ⟨k + 1, _, rfl, by omega, ks.1⟩, by dsimp only; omega⟩
          unfold F_law08_BackoffFails_l1
          dsimp only
          rw [show decide ((k : Int) < 125) = true by simp; omega, ended_eq, hen, beqF (show ¬ (sb b).State = 2 from fun h => by have : b.st = 2 := h; omega)]
          simp only [cond_true, cond_false, Option.bind_some]
          exact j4 b.bu ks.2.2.1 (by omega)
        · cases hbs : busyB ys k
          · have ks := step_clear b (xs.getD (k + 1) 0) hv e
            rw [hbs] at j4
            refine ⟨_, ?_, ⟨k + 1, _, rfl, by omega, ks.1⟩, by dsimp only; omega⟩
            unfold F_law08_BackoffFails_l1
            dsimp only
            rw [show decide ((k : Int) < 125) = true by simp; omega, ended_eq, hen, show ((sb b).State == 2) = true from beq_iff_eq.2 e, busy_eq ys k (by omega), hbs]
            simp only [cond_true, cond_false, Option.bind_some]
            exact j4 b.bu ks.2.2.1 (by omega)
          · have ks := step_busy b (xs.getD (k + 1) 0) hv e
            rw [hbs] at j4
            refine ⟨_, ?_, ⟨k + 1, _, rfl, by omega, ks.1⟩, by dsimp only; omega⟩
            unfold F_law08_BackoffFails_l1
            dsimp only
            rw [show decide ((k : Int) < 125) = true by simp; omega, ended_eq, hen, show ((sb b).State == 2) = true from beq_iff_eq.2 e, busy_eq ys k (by omega), hbs]
            simp only [cond_true, cond_false, Option.bind_some]
            rw [wi (x := b.bu + 1) (by omega) (by omega)]
            exact j4 (b.bu + 1) ks.2.2.1 (by omega)
    · right
      obtain rfl : k = 125 := by omega
      exact ⟨Sum.inl b.bu, by unfold F_law08_BackoffFails_l1; rfl, b.bu, rfl, by omega⟩) (0, 0, sb (beginB (xs.getD 0 0))) ⟨0, _, by rw [hb.2.2.1]; rfl, by omega, hb.1⟩
  rw [hr]
  simp only [Option.bind_some]
  rw [known_eq]
  simp only [Option.bind_some, cond_true]
  exact congrArg some (decide_eq_true hf)

theorem fails_calls {W : World} {v0 v1 : Value} {xs ys : List Int} (h0 : VRel (rdAll W) env0 v0 (.c (.slc 1 0 (List.map (ecI .u32) xs)))) (h1 : VRel (rdAll W) env0 v1 (.c (.slc 1 0 (List.map (ecI .u8) ys)))) (hx : ∀ z ∈ xs, (Lit.int .u32 z).wf = true) :
    Calls Try.prog 7 #[v0, v1] W fun e w' => e = .returned (.bool true) ∧ Ext W w' :=
  pure_true (ok_law08_BackoffFails xs ys true (fails_true xs ys hx)) rfl (args2 h0 h1)
set_option maxRecDepth 100000 in
theorem backoffFails_lifted (os : Os) (started : os.Started) (H : Type) (enc : TypeId × Value → H) :
    ReturnsInHanded {} Try.checked os 7 .any (Rows.backoffFailsSpec.pre6 enc Try.prog Try.f7 Rows.backoffFailsRow.domain false) (Rows.backoffFailsSpec.post enc Try.prog Try.f7 false true false false) := by
  refine returnsInHanded_of_change_sized (C := Try.checked) own started (by kernel_rfl) Try.func7
    (ChangeSpec.witness6 (enc := enc) (C := Try.checked) false ⟨#[], #[.slice none 0 0, .slice none 0 0], []⟩ 8 (by kernel_rfl) (by kernel_rfl) (by kernel_rfl) (by kernel_rfl)) ?_
  intro W base args ds gs before hval0 hW hcnd hsz0 _
  have hval : ∀ (j : Nat) t v, Try.f7.params[j]? = some t → args[j]? = some v → Value.okWide Try.prog W .any base t v := hval0
  have hsz : (DataW.weightsEach Try.prog (Try.f7.params.toList ++ Rows.backoffFailsSpec.plain.varTypes Try.prog) (ds ++ gs)).all (· ≤ reachBytes) = true := hsz0
  have hW' := hW
  obtain ⟨p, q, hA0, hV, rfl, hfz, hnd⟩ := hW
  have hA : DataW.TrodAll enc Try.prog W 0 (fun _ => true) true Try.f7.params.toList args.toList ds p := hA0
  have hAll := hA
  rw [Try.params7] at hA hval hsz hAll
  obtain ⟨v0, vs0, d0, ds0, p0, q0, hargs, rfl, rfl, h0, r0⟩ := trodAll_cons hA
  obtain ⟨v1, vs1, d1, ds1, p1, q1, rfl, rfl, rfl, h1, r1⟩ := trodAll_cons r0
  obtain ⟨rfl, rfl, rfl⟩ := trodAll_nil r1
  obtain rfl : args = #[v0, v1] := by cases args; simp_all
  obtain ⟨rfl, rfl⟩ := trodVars_none hV
  obtain ⟨xs0, hR0, hwf0, hln0⟩ := open_intsS Try.underlying36 Try.underlying25 (by kernel_rfl) (by kernel_rfl : Try.prog.bytesOf 25 = 4) (by decide) (hval 0 36 v0 rfl rfl) h0 hsz (j := 0) rfl rfl
  obtain ⟨xs1, hR1, hwf1, hln1⟩ := open_intsS Try.underlying37 Try.underlying5 (by kernel_rfl) (by kernel_rfl : Try.prog.bytesOf 5 = 1) (by decide) (hval 1 37 v1 rfl rfl) h1 hsz (j := 1) rfl rfl
  clear hA0 hval0 hsz0
  refine (fails_calls hR0 hR1 hwf0).mono fun e W' ⟨he, hx⟩ => ?_
  subst he
  have bel := hx.below
  exact ⟨_, rfl, _, _, _, [], _, [], hW', trodAll_mk1 (shut_bool Try.underlying4 _), trodAll_below laidOut bel (by kernel_rfl) hAll, rfl, bel.frame _, fun h => by cases h⟩

theorem backoffFails_holds : Rows.BackoffFailsSaid :=
  OpenClaim.holds_of_wide 7 Try.f7 rfl rfl rfl rfl rfl rfl rfl ⟨rfl, rfl, rfl, rfl, rfl⟩ rfl rfl rfl rfl rfl (by kernel_rfl) Try.func7 (by kernel_rfl)
    (of_decide_eq_true (by kernel_rfl)) (by unfold Func.isWrapper; first | (rw [if_pos (by decide +kernel)]; kernel_rfl) | (rw [if_neg (by decide +kernel)]; exact ⟨rfl, rfl⟩))
    (fun os started H enc _ => backoffFails_lifted os started H enc)
#print axioms backoffFails_holds
end Go.Proofs.Ytohhaibbbnobpaa
