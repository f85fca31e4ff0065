/-
  BackoffClear.
-/
import Derived.Test.YtohhaibbbnobpaaBkEnds2
namespace Go.Proofs.Ytohhaibbbnobpaa
open Go.ChangeShapes Go.WideShapes Go.ChangeAt Go.RowKit


theorem clear_true (xs ys : List Int) (hx : ∀ z ∈ xs, (Lit.int .u32 z).wf = true) : F_law08_BackoffClear xs ys = some true := by
  unfold F_law08_BackoffClear
  have h0 := at_bd hx 0
  rw [at_eq xs 0 (by decide)]
  simp only [Option.bind_some, Int.toNat_zero]
  rw [begin_eq _ h0.1 h0.2]
  simp only [Option.bind_some]
  have hb := begin_valid (xs.getD 0 0)
  obtain ⟨r, hr, b, rfl, hv, he⟩ := loop_inv (step := F_law08_BackoffClear_l1 ys xs) (fun s => ∃ (c k : Nat) (b : Bk), s = ((c : Int), (k : Int), sb b) ∧ k ≤ 125 ∧ c ≤ k ∧ b.Valid ∧ pot b ≤ 125 - k ∧ (b.st = 2 → 2 - b.cl ≤ (c : Int))) (fun r => ∃ b, r = Sum.inl (sb b) ∧ b.Valid ∧ (b.st = 3 ∨ b.st = 4)) (fun s => (125 - s.2.1).toNat) (by
    rintro _ ⟨c, k, b, rfl, hk, hck, hv, hp, hcl⟩
    by_cases hlt : k < 125
    · by_cases hend : b.st = 3 ∨ b.st = 4
      · right
        refine ⟨Sum.inl (sb b), ?_, b, rfl, hv, hend⟩
        unfold F_law08_BackoffClear_l1
        dsimp only
        rw [show decide ((k : Int) < 125) = true by simp; omega, ended_eq, show endedB (bk (sb b)) = true from decide_eq_true ⟨hv, hend⟩]
        rfl
      · left
        have hd := at_bd hx (k + 1)
        have hs := step_all b (busyB ys k) (xs.getD (k + 1) 0) hv
        have hen : endedB (bk (sb b)) = false := decide_eq_false (fun h => hend h.2)
        have key : F_law08_BackoffClear_l1 ys xs ((c : Int), (k : Int), sb b) = bif busyB ys k then (F_law08_BackoffClear_j4 (sb (b.step (busyB ys k) (xs.getD (k + 1) 0))) ((c : Int), (k : Int), sb b)) 0 else (F_law08_BackoffClear_j4 (sb (b.step (busyB ys k) (xs.getD (k + 1) 0))) ((c : Int), (k : Int), sb b)) ((c + 1 : Nat) : Int) := by
          unfold F_law08_BackoffClear_l1
          dsimp only
          rw [show decide ((k : Int) < 125) = true by simp; omega, ended_eq, hen, busy_eq ys k (by omega)]
          simp only [cond_true, cond_false, Option.bind_some]
          rw [wi (x := (k : Int) + 1) (by omega) (by omega), at_eq xs _ (by omega), wi (x := (c : Int) + 1) (by omega) (by omega)]
          simp only [Option.bind_some]
          have e : ((k : Int) + 1).toNat = k + 1 := by omega
          rw [e, step_eq _ _ _ hd.1 hd.2]
          rfl
        rw [key]
        have hst : b.st = 1 ∨ b.st = 2 := by have := hv; simp only [Bk.Valid] at this; omega
        have j4 : ∀ (u : Bk) (c' : Nat), (u.st = 3 → 2 ≤ c') → F_law08_BackoffClear_j4 (sb u) ((c : Int), (k : Int), sb b) (c' : Int) = some (Sum.inl ((c' : Int), ((k + 1 : Nat) : Int), sb u)) := by
          intro u c' hu
          unfold F_law08_BackoffClear_j4
          dsimp only [sb]
          rw [wi (x := (k : Int) + 1) (by omega) (by omega)]
          by_cases h3 : u.st = 3
          · have := hu h3
            rw [show (u.st == 3) = true by simpa using h3, show decide ((c' : Int) < 2) = false by simp; omega]
            rfl
          · rw [beqF h3]
            rfl
        rcases hst with e | e
        · have ks := step_one b (busyB ys k) (xs.getD (k + 1) 0) hv e
          generalize b.step (busyB ys k) (xs.getD (k + 1) 0) = u at *
          cases busyB ys k
          · exact ⟨_, j4 u (c + 1) (by omega), ⟨c + 1, k + 1, u, rfl, by omega, by omega, hs.1, by have := hs.2; omega, by omega⟩, by dsimp only; omega⟩
          · exact ⟨_, j4 u 0 (by omega), ⟨0, k + 1, u, rfl, by omega, by omega, hs.1, by have := hs.2; omega, by omega⟩, by dsimp only; omega⟩
        · have hc := hcl e
          cases hbs : busyB ys k
          · rw [hbs] at hs
            have ks := step_clear b (xs.getD (k + 1) 0) hv e
            generalize b.step false (xs.getD (k + 1) 0) = u at *
            exact ⟨_, j4 u (c + 1) (by omega), ⟨c + 1, k + 1, u, rfl, by omega, by omega, hs.1, by have := hs.2; omega, by omega⟩, by dsimp only; omega⟩
          · rw [hbs] at hs
            have ks := step_busy b (xs.getD (k + 1) 0) hv e
            generalize b.step true (xs.getD (k + 1) 0) = u at *
            exact ⟨_, j4 u 0 (by omega), ⟨0, k + 1, u, rfl, by omega, by omega, hs.1, by have := hs.2; omega, by omega⟩, by dsimp only; omega⟩
    · right
      obtain rfl : k = 125 := by omega
      exact ⟨Sum.inl (sb b), by unfold F_law08_BackoffClear_l1; rfl, b, rfl, hv, ended_of_pot b hv (by omega)⟩) (0, 0, sb (beginB (xs.getD 0 0))) ⟨0, 0, _, rfl, by omega, by omega, hb.1, hb.2.1, fun h2 => by
        have : (beginB (xs.getD 0 0)).cl = 2 := rfl
        omega⟩
  rw [hr]
  simp only [Option.bind_some]
  rw [known_eq]
  simp only [Option.bind_some, cond_true]
  rw [ended_eq, show endedB (bk (sb b)) = true from decide_eq_true ⟨hv, he⟩]
  rfl

theorem clear_calls {W : World} {v0 v1 : Value} {xs ys : List Int} (h0 : VRel (rdAll W) env0 v0 (.c (.slc 1 0 (List.map (ecI .u32) xs)))) (h1 : VRel (rdAll W) env0 v1 (.c (.slc 1 0 (List.map (ecI .u8) ys)))) (hx : ∀ z ∈ xs, (Lit.int .u32 z).wf = true) :
    Calls Try.prog 6 #[v0, v1] W fun e w' => e = .returned (.bool true) ∧ Ext W w' :=
  pure_true (ok_law08_BackoffClear xs ys true (clear_true xs ys hx)) rfl (args2 h0 h1)
set_option maxRecDepth 100000 in
theorem backoffClear_lifted (os : Os) (started : os.Started) (H : Type) (enc : TypeId × Value → H) :
    ReturnsInHanded {} Try.checked os 6 .any (Rows.backoffClearSpec.pre6 enc Try.prog Try.f6 Rows.backoffClearRow.domain false) (Rows.backoffClearSpec.post enc Try.prog Try.f6 false true false false) := by
  refine returnsInHanded_of_change_sized (C := Try.checked) own started (by kernel_rfl) Try.func6
    (ChangeSpec.witness6 (enc := enc) (C := Try.checked) false ⟨#[], #[.slice none 0 0, .slice none 0 0], []⟩ 8 (by kernel_rfl) (by kernel_rfl) (by kernel_rfl) (by kernel_rfl)) ?_
  intro W base args ds gs before hval0 hW hcnd hsz0 _
  have hval : ∀ (j : Nat) t v, Try.f6.params[j]? = some t → args[j]? = some v → Value.okWide Try.prog W .any base t v := hval0
  have hsz : (DataW.weightsEach Try.prog (Try.f6.params.toList ++ Rows.backoffClearSpec.plain.varTypes Try.prog) (ds ++ gs)).all (· ≤ reachBytes) = true := hsz0
  have hW' := hW
  obtain ⟨p, q, hA0, hV, rfl, hfz, hnd⟩ := hW
  have hA : DataW.TrodAll enc Try.prog W 0 (fun _ => true) true Try.f6.params.toList args.toList ds p := hA0
  have hAll := hA
  rw [Try.params6] at hA hval hsz hAll
  obtain ⟨v0, vs0, d0, ds0, p0, q0, hargs, rfl, rfl, h0, r0⟩ := trodAll_cons hA
  obtain ⟨v1, vs1, d1, ds1, p1, q1, rfl, rfl, rfl, h1, r1⟩ := trodAll_cons r0
  obtain ⟨rfl, rfl, rfl⟩ := trodAll_nil r1
  obtain rfl : args = #[v0, v1] := by cases args; simp_all
  obtain ⟨rfl, rfl⟩ := trodVars_none hV
  obtain ⟨xs0, hR0, hwf0, hln0⟩ := open_intsS Try.underlying36 Try.underlying25 (by kernel_rfl) (by kernel_rfl : Try.prog.bytesOf 25 = 4) (by decide) (hval 0 36 v0 rfl rfl) h0 hsz (j := 0) rfl rfl
  obtain ⟨xs1, hR1, hwf1, hln1⟩ := open_intsS Try.underlying37 Try.underlying5 (by kernel_rfl) (by kernel_rfl : Try.prog.bytesOf 5 = 1) (by decide) (hval 1 37 v1 rfl rfl) h1 hsz (j := 1) rfl rfl
  clear hA0 hval0 hsz0
  refine (clear_calls hR0 hR1 hwf0).mono fun e W' ⟨he, hx⟩ => ?_
  subst he
  have bel := hx.below
  exact ⟨_, rfl, _, _, _, [], _, [], hW', trodAll_mk1 (shut_bool Try.underlying4 _), trodAll_below laidOut bel (by kernel_rfl) hAll, rfl, bel.frame _, fun h => by cases h⟩

theorem backoffClear_holds : Rows.BackoffClearSaid :=
  OpenClaim.holds_of_wide 6 Try.f6 rfl rfl rfl rfl rfl rfl rfl ⟨rfl, rfl, rfl, rfl, rfl⟩ rfl rfl rfl rfl rfl (by kernel_rfl) Try.func6 (by kernel_rfl)
    (of_decide_eq_true (by kernel_rfl)) (by unfold Func.isWrapper; first | (rw [if_pos (by decide +kernel)]; kernel_rfl) | (rw [if_neg (by decide +kernel)]; exact ⟨rfl, rfl⟩))
    (fun os started H enc _ => backoffClear_lifted os started H enc)
#print axioms backoffClear_holds
end Go.Proofs.Ytohhaibbbnobpaa
