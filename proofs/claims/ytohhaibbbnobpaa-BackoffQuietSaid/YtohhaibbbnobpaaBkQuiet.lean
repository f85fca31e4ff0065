/-
  BackoffQuiet: in a channel that is never busy a backoff ends after the drawn wait and ClearSlots more slots, and not before. No condition.
-/
import Derived.Test.YtohhaibbbnobpaaBkKnown
import Derived.Test.YtohhaibbbnobpaaFrameInts
namespace Go.Proofs.Ytohhaibbbnobpaa
open Go.ChangeShapes Go.WideShapes Go.ChangeAt Go.RowKit

def qst (p k : Nat) : Bk := if k < p then ⟨1, 0, 3, 2, (p : Int) - k⟩ else if k = p then ⟨2, 0, 3, 2, 0⟩ else if k = p + 1 then ⟨2, 0, 3, 1, 0⟩ else ⟨3, 0, 3, 0, 0⟩

theorem qst_begin {d : Int} {p : Nat} (h : d % 8 = (p : Int)) : beginB d = qst p 0 := by
  unfold beginB Bk.drawn qst
  simp only [powE, if_true, h]
  by_cases hp : p = 0
  · subst hp; simp
  · have h2 : 0 < p := by omega
    simp [hp, h2]
theorem step_wait {p k : Nat} (h : k < p) (h8 : p ≤ 7) (x : Int) : (Bk.mk 1 0 3 2 ((p : Int) - k)).step false x = qst p (k + 1) := by
  have hv : validB ⟨1, 0, 3, 2, (p : Int) - k⟩ = true := decide_eq_true ⟨(by first | (dsimp only; omega) | omega), (by first | (dsimp only; omega) | omega), (by first | (dsimp only; omega) | omega), .inr ⟨(by first | (dsimp only; omega) | omega), .inl ⟨rfl, rfl, (by first | (dsimp only; omega) | omega), .inl ⟨rfl, (by first | (dsimp only; omega) | omega)⟩⟩⟩⟩
  unfold Bk.step
  rw [if_pos hv]
  simp only [if_true]
  unfold qst
  by_cases h1 : k + 1 < p
  · rw [if_pos h1, if_neg (by omega)]
    have : (p : Int) - k - 1 = (p : Int) - ((k + 1 : Nat) : Int) := by omega
    rw [this]
  · rw [if_neg h1, if_pos (by omega), if_pos (by omega)]
    have : (p : Int) - k - 1 = 0 := by omega
    rw [this]
theorem qst_step {p k : Nat} (hk : k < p + 2) (h8 : p ≤ 7) (x : Int) : (qst p k).step false x = qst p (k + 1) := by
  by_cases h : k < p
  · have e : qst p k = ⟨1, 0, 3, 2, (p : Int) - k⟩ := by unfold qst; rw [if_pos h]
    rw [e]
    exact step_wait h h8 x
  · by_cases h1 : k = p
    · have e : qst p k = ⟨2, 0, 3, 2, 0⟩ := by unfold qst; rw [if_neg h, if_pos h1]
      have e2 : qst p (k + 1) = ⟨2, 0, 3, 1, 0⟩ := by unfold qst; rw [if_neg (by omega), if_neg (by omega), if_pos (by omega)]
      rw [e, e2]
      have hv : validB ⟨2, 0, 3, 2, 0⟩ = true := by decide +kernel
      simp [Bk.step, hv, Bk.sense]
    · have e : qst p k = ⟨2, 0, 3, 1, 0⟩ := by unfold qst; rw [if_neg h, if_neg h1, if_pos (by omega)]
      have e2 : qst p (k + 1) = ⟨3, 0, 3, 0, 0⟩ := by unfold qst; rw [if_neg (by omega), if_neg (by omega), if_neg (by omega)]
      rw [e, e2]
      have hv : validB ⟨2, 0, 3, 1, 0⟩ = true := by decide +kernel
      simp [Bk.step, hv, Bk.sense]
theorem qst_open {p k : Nat} (hk : k < p + 2) : endedB (qst p k) = false := by
  refine decide_eq_false ?_
  rintro ⟨_, h⟩
  unfold qst at h
  split at h
  · simp at h
  · split at h
    · simp at h
    · rw [if_pos (by omega)] at h
      simp at h
theorem qst_last (p : Nat) : qst p (p + 2) = ⟨3, 0, 3, 0, 0⟩ := by unfold qst; rw [if_neg (by omega), if_neg (by omega), if_neg (by omega)]

set_option maxRecDepth 100000 in
set_option maxHeartbeats 2000000 in
theorem quiet_walk (d : Int) (A : Option Addr) (n c : Nat) (zs : List Int) (w : World) (h0 : 0 ≤ d ∧ d ≤ 4294967295) (h : IntsAt .u32 w A n zs) (hz : ∀ i, 0 ≤ atZ zs i ∧ atZ zs i ≤ 4294967295) :
    Calls Try.prog 8 #[.int .u32 d, .slice A n c] w fun e w' => e = .returned (.bool true) ∧ Ext w w' := by
  obtain ⟨p, hp, hp8⟩ : ∃ p : Nat, d % 8 = (p : Int) ∧ p ≤ 7 := ⟨(d % 8).toNat, by omega, by omega⟩
  have HB := Lib.hid (qst_begin hp)
  have HZ := Lib.hid hz
  have HI := Lib.hid h
  clear hz h
  go_enter Try.func8, Try.ntmps8
  go_wp2_with fail
  refine (begin_any d _ h0.1 h0.2).mono ?_
  rintro e W ⟨rfl, hW⟩
  obtain ⟨t0, ht0⟩ : ∃ t, qst p 0 = t := ⟨_, rfl⟩
  rw [HB.out, ht0, bagg_eq]
  have H0 := Lib.hid ht0
  clear ht0
  go_wp2
  go_loopw [7] (fun i wr => ∃ (k : Nat) (t : Bk) (g : Grow), k ≤ p + 2 ∧ i = .int .i64 k ∧ Hid (t = qst p k) ∧ wr = wplus (W.alloc (.cells #[.int .i64 t.st, .int .i64 t.bu, .int .i64 t.ex, .int .i64 t.cl, .int .i64 t.wt] 23)) g) (fun i _ => p + 2 - (intOf i).toNat)
  case atStart =>
    obtain ⟨g, hg⟩ := Ext.refl (W.alloc (.cells #[.int .i64 t0.st, .int .i64 t0.bu, .int .i64 t0.ex, .int .i64 t0.cl, .int .i64 t0.wt] 23))
    exact ⟨0, t0, g, by omega, rfl, H0.out.symm, hg⟩
  case round =>
    obtain ⟨k, t, g, hk, rfl, HT, rfl⟩ := hrel
    by_cases hlt : k < p + 2
    · have hdl : decide ((k : Int) < (p : Int) + 2) = true := by simp; omega
      go_wp2_with fail
      refine (ended_any t _).mono ?_
      rw [show endedB t = false from by rw [HT.out]; exact qst_open hlt]
      rintro e w2 ⟨rfl, g2, rfl⟩
      obtain ⟨u, hu⟩ : ∃ u, t.step false (atZ zs k) = u := ⟨_, rfl⟩
      have HU := Lib.hid hu
      clear hu
      go_wp2
      refine wp_region_mono_tailL 5 [(3, isV (.int .u32 (atZ zs k))), (4, isV (.agg #[.int .i64 u.st, .int .i64 u.bu, .int .i64 u.ex, .int .i64 u.cl, .int .i64 u.wt]))] (by kernel_rfl) (by kernel_rfl) ⟨steady_isV _, steady_isV _, trivial⟩ ?_
      simp only [List.take_succ_cons, List.take_zero, List.drop_succ_cons, List.drop_zero]
      iterate 3
        refine wpM_quiet0 lax_of rfl rfl rfl (fun K hK => ?_)
        go_big_quiet_op
        refine hK _ ?_; clear hK K
      refine wpM_val _ lax_of rfl rfl (fun W hW => ?_) ?_
      · obtain ⟨g, rfl⟩ := hW
        go_simp
        exact fit_same (at_any A n c zs k _ (HI.out.ext (hW.trans ((Ext.alloc _ _).trans (Ext.plus _ _)))))
      simp only [Act.put, List.setIfInBounds_toArray, List.set_cons_zero, List.set_cons_succ]
      refine wpM_val _ lax_of rfl rfl (fun W hW => ?_) ?_
      · obtain ⟨g, rfl⟩ := hW
        go_simp
        exact fit_val (by have h1 := step_any t false (atZ zs k); rw [HU.out] at h1; exact h1 _ (HZ.out k).1 (HZ.out k).2)
      simp only [Act.put, List.setIfInBounds_toArray, List.set_cons_zero, List.set_cons_succ]
      refine wpM_nil (fun w3 hw3 _ => ?_)
      obtain ⟨g3, rfl⟩ := hw3
      go_wp2
      go_roundw
      case rel => exact ⟨k + 1, u, _, by omega, by go_num, by show u = _; rw [← HU.out, HT.out]; exact qst_step hlt hp8 _, rfl⟩
      case measure => simp [intOf]; omega
    · obtain rfl : k = p + 2 := by omega
      have hdl : decide (((p + 2 : Nat) : Int) < (p : Int) + 2) = false := by simp
      have e3 : t = ⟨3, 0, 3, 0, 0⟩ := by rw [HT.out, qst_last]
      subst e3
      go_wp2_with fail
      refine (known_any _).mono ?_
      rintro e w2 ⟨rfl, g2, rfl⟩
      go_wp2
      go_ret
      exact ⟨rfl, hW.trans ((Ext.alloc _ _).trans (Ext.plus _ _))⟩

set_option maxRecDepth 100000 in
theorem backoffQuiet_lifted (os : Os) (started : os.Started) (H : Type) (enc : TypeId × Value → H) :
    ReturnsInHanded {} Try.checked os 8 .any (Rows.backoffQuietSpec.pre6 enc Try.prog Try.f8 Rows.backoffQuietRow.domain false) (Rows.backoffQuietSpec.post enc Try.prog Try.f8 false true false false) := by
  refine returnsInHanded_of_change_sized (C := Try.checked) own started (by kernel_rfl) Try.func8
    (ChangeSpec.witness6 (enc := enc) (C := Try.checked) false ⟨#[], #[.int .u32 0, .slice none 0 0], []⟩ 8 (by kernel_rfl) (by kernel_rfl) (by kernel_rfl) (by kernel_rfl)) ?_
  intro W base args ds gs before hval0 hW hcnd hsz0 _
  have hval : ∀ (j : Nat) t v, Try.f8.params[j]? = some t → args[j]? = some v → Value.okWide Try.prog W .any base t v := hval0
  have hsz : (DataW.weightsEach Try.prog (Try.f8.params.toList ++ Rows.backoffQuietSpec.plain.varTypes Try.prog) (ds ++ gs)).all (· ≤ reachBytes) = true := hsz0
  have hW' := hW
  obtain ⟨p, q, hA0, hV, rfl, hfz, hnd⟩ := hW
  have hA : DataW.TrodAll enc Try.prog W 0 (fun _ => true) true Try.f8.params.toList args.toList ds p := hA0
  have hAll := hA
  rw [Try.params8] at hA hval hsz hAll
  obtain ⟨v0, vs0, d0, ds0, p0, q0, hargs, rfl, rfl, h0, r0⟩ := trodAll_cons hA
  obtain ⟨v1, vs1, d1, ds1, p1, q1, rfl, rfl, rfl, h1, r1⟩ := trodAll_cons r0
  obtain ⟨rfl, rfl, rfl⟩ := trodAll_nil r1
  obtain rfl : args = #[v0, v1] := by cases args; simp_all
  obtain ⟨rfl, rfl⟩ := trodVars_none hV
  obtain ⟨x0, rfl, rfl, rfl, w0⟩ := open_int Try.underlying25 (hval 0 25 v0 rfl rfl) h0
  obtain ⟨A1, n1, c1, xs1, rfl, hR1, hwf1, hnc1, hc1⟩ := open_intsl Try.underlying36 Try.underlying25 (by kernel_rfl) (by kernel_rfl : Try.prog.bytesOf 25 = 4) (hval 1 36 v1 rfl rfl) h1 hsz (j := 1) rfl rfl
  clear hA0 hval0 hsz0
  refine (quiet_walk x0 A1 n1 c1 xs1 W (u32_bd w0) hR1 (at_u32 hwf1)).mono fun e W' ⟨he, hx⟩ => ?_
  subst he
  have bel := hx.below
  exact ⟨_, rfl, _, _, _, [], _, [], hW', trodAll_mk1 (shut_bool Try.underlying4 _), trodAll_below laidOut bel (by kernel_rfl) hAll, rfl, bel.frame _, fun h => by cases h⟩

theorem backoffQuiet_holds : Rows.BackoffQuietSaid :=
  OpenClaim.holds_of_wide 8 Try.f8 rfl rfl rfl rfl rfl rfl rfl ⟨rfl, rfl, rfl, rfl, rfl⟩ rfl rfl rfl rfl rfl (by kernel_rfl) Try.func8 (by kernel_rfl)
    (of_decide_eq_true (by kernel_rfl)) (by unfold Func.isWrapper; first | (rw [if_pos (by decide +kernel)]; kernel_rfl) | (rw [if_neg (by decide +kernel)]; exact ⟨rfl, rfl⟩))
    (fun os started H enc _ => backoffQuiet_lifted os started H enc)
#print axioms backoffQuiet_holds
end Go.Proofs.Ytohhaibbbnobpaa
