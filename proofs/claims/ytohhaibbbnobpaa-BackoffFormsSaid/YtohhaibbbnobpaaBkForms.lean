/-
  BackoffForms.
-/
import Derived.Test.YtohhaibbbnobpaaBkLaws
import Derived.Test.YtohhaibbbnobpaaTape
import Derived.Test.YtohhaibbbnobpaaOpen
namespace Go.Proofs.Ytohhaibbbnobpaa
open Go.ChangeShapes Go.WideShapes Go.ChangeAt Go.RowKit

theorem u32_wrap (x : Int) : 0 ≤ IntKind.wrap .u32 x ∧ IntKind.wrap .u32 x ≤ 4294967295 := by
  simp [IntKind.wrap, IntKind.bits, IntKind.signed]
  omega
theorem tapeBackoff_spec {t : S_multihopmade_Tape} (h : TapeOk t) : ∃ s t', F_made_Tape_Backoff t = some (s, t') ∧ TapeOk t' := by
  unfold F_made_Tape_Backoff
  obtain ⟨x, t1, e1, _, _, k1⟩ := next_spec h 1000 (by omega) (by omega)
  rw [e1]
  simp only [Option.bind_some]
  rw [rbegin_eq _ (u32_wrap x).1 (u32_wrap x).2]
  simp only [Option.bind_some]
  obtain ⟨y, t2, e2, _, _, k2⟩ := next_spec k1 3 (by omega) (by omega)
  rw [e2]
  simp only [Option.bind_some]
  obtain ⟨z, t3, e3, z0, z1, k3⟩ := next_spec k2 60 (by omega) (by omega)
  rw [e3]
  simp only [Option.bind_some]
  obtain ⟨r, hr, _⟩ := loop_inv (step := F_made_Tape_Backoff_l1 (y, t2)) (fun s => 0 ≤ s.1 ∧ s.1 < 60) (fun _ => True) (fun s => s.1.toNat) (by
    rintro ⟨i, s⟩ ⟨h0, h1⟩
    dsimp only at h0 h1
    unfold F_made_Tape_Backoff_l1
    dsimp only
    by_cases hi : i > 0
    · left
      rw [show decide (i > 0) = true by simpa using hi, wi (x := i - 1) (by omega) (by omega), rstep_eq _ _ _ (u32_wrap i).1 (u32_wrap i).2, rstep_eq _ _ _ (u32_wrap i).1 (u32_wrap i).2, rstep_eq _ _ _ (u32_wrap i).1 (u32_wrap i).2]
      simp only [cond_true, Option.bind_some]
      cases (y == 0)
      · cases (y == 1)
        · exact ⟨_, rfl, ⟨by dsimp only; omega, by dsimp only; omega⟩, by dsimp only; omega⟩
        · exact ⟨_, rfl, ⟨by dsimp only; omega, by dsimp only; omega⟩, by dsimp only; omega⟩
      · exact ⟨_, rfl, ⟨by dsimp only; omega, by dsimp only; omega⟩, by dsimp only; omega⟩
    · right
      rw [show decide (i > 0) = false by simpa using hi]
      exact ⟨s, rfl, trivial⟩) (z, sb (beginB (IntKind.wrap .u32 x))) ⟨z0, z1⟩
  rw [hr]
  exact ⟨_, _, rfl, k3⟩

theorem forms_true (raw : S_Backoff) (l : List Int) (ch : Bool) (d by_ : Int) (h0 : 0 ≤ d) (h1 : d ≤ 4294967295) : F_law08_BackoffForms raw l ch d by_ = some true := by
  unfold F_law08_BackoffForms
  obtain ⟨t, et, ht⟩ := new_spec l
  rw [et]
  simp only [Option.bind_some]
  obtain ⟨s, t', es, _⟩ := tapeBackoff_spec ht
  rw [es]
  simp only [Option.bind_some]
  obtain ⟨m, em, _, _⟩ := mod_spec by_ 5 (by omega) (by omega)
  obtain ⟨m', em', _, _⟩ := mod_spec by_ 6 (by omega) (by omega)
  rw [em, em']
  simp only [Option.bind_some]
  obtain ⟨r, hr, rfl⟩ := loop_inv (step := F_law08_BackoffForms_l1 raw (s, t') m m' ch d) (fun i => 0 ≤ i ∧ i ≤ 4) (fun r => r = Sum.inl ()) (fun i => (4 - i).toNat) (by
    rintro i ⟨i0, i4⟩
    unfold F_law08_BackoffForms_l1
    dsimp only
    generalize hL : [raw, s, (S_Backoff.mk s.State s.Busy s.Exponent s.Clear (IntKind.wrap .i64 (s.Wait + (IntKind.wrap .i64 (m - 2))))), (S_Backoff.mk m' s.Busy s.Exponent s.Clear s.Wait)] = L
    have hlen : L.length = 4 := by rw [← hL]; rfl
    by_cases hi : i < 4
    · left
      rw [show decide (i < (L.length : Int)) = true by rw [hlen]; simpa using hi]
      have hlt : i.toNat < L.length := by omega
      have e : idx L i = some L[i.toNat] := by unfold idx; rw [if_pos i0]; exact List.getElem?_eq_getElem hlt
      rw [e]
      generalize L[i.toNat] = u
      simp only [cond_true, Option.bind_some]
      rw [valid_eq, rvalid_eq, ended_eq, rended_eq, step_eq _ _ _ h0 h1, rstep_eq _ _ _ h0 h1]
      simp only [Option.bind_some, beq_self_eq_true, cond_true, eqb_self]
      rw [wi (x := i + 1) (by omega) (by omega)]
      exact ⟨i + 1, rfl, ⟨by omega, by omega⟩, by omega⟩
    · right
      rw [show decide (i < (L.length : Int)) = false by rw [hlen]; simpa using hi]
      exact ⟨_, rfl, rfl⟩) 0 ⟨by omega, by omega⟩
  rw [hr]
  simp only [Option.bind_some]
  rw [known_eq]
  simp only [Option.bind_some, cond_true]
  rw [begin_eq _ h0 h1, rbegin_eq _ h0 h1]
  simp only [Option.bind_some, eqb_self]

theorem opens_Backoff : Opens Try.prog 23 S_Backoff.cs (fun _ => True) := by
  intro H enc W fuel cs x h
  have hl := (DataW.trod_struct Try.underlying23 h)
  obtain ⟨_, _, _, _, hl, _⟩ := hl
  obtain ⟨a0, s0, _⟩ := opens_field Try.underlying23 h 0 _ rfl (n := 1) (off := 0) (by kernel_rfl) (by kernel_rfl) (by kernel_rfl) (opens_int (k := .i64) (by kernel_rfl))
  obtain ⟨a1, s1, _⟩ := opens_field Try.underlying23 h 1 _ rfl (n := 1) (off := 1) (by kernel_rfl) (by kernel_rfl) (by kernel_rfl) (opens_int (k := .i64) (by kernel_rfl))
  obtain ⟨a2, s2, _⟩ := opens_field Try.underlying23 h 2 _ rfl (n := 1) (off := 2) (by kernel_rfl) (by kernel_rfl) (by kernel_rfl) (opens_int (k := .i64) (by kernel_rfl))
  obtain ⟨a3, s3, _⟩ := opens_field Try.underlying23 h 3 _ rfl (n := 1) (off := 3) (by kernel_rfl) (by kernel_rfl) (by kernel_rfl) (opens_int (k := .i64) (by kernel_rfl))
  obtain ⟨a4, s4, _⟩ := opens_field Try.underlying23 h 4 _ rfl (n := 1) (off := 4) (by kernel_rfl) (by kernel_rfl) (by kernel_rfl) (opens_int (k := .i64) (by kernel_rfl))
  refine ⟨⟨a0, a1, a2, a3, a4⟩, ?_, trivial⟩
  rw [hl]
  exact (((s0.append s1).append s2).append s3).append s4
theorem forms_calls {W : World} {v0 v1 : Value} {raw : S_Backoff} {l : List Int} {ch : Bool} {d by_ : Int} (h0 : VRel (rdAll W) env0 v0 (.agg (S_Backoff.cs raw))) (h1 : VRel (rdAll W) env0 v1 (.c (.slc 1 0 (List.map (ecI .i64) l)))) (hd : (Lit.int .u32 d).wf = true) :
    Calls Try.prog 3 #[v0, v1, .bool ch, .int .u32 d, .int .i64 by_] W fun e w' => e = .returned (.bool true) ∧ Ext W w' :=
  pure_true (ok_law08_BackoffForms raw l ch d by_ true (forms_true raw l ch d by_ (u32_bd hd).1 (u32_bd hd).2)) rfl (args5 h0 h1 (vrel_lit _ _ _) (vrel_lit _ _ _) (vrel_lit _ _ _))
set_option maxRecDepth 100000 in
theorem backoffForms_lifted (os : Os) (started : os.Started) (H : Type) (enc : TypeId × Value → H) :
    ReturnsInHanded {} Try.checked os 3 .any (Rows.backoffFormsSpec.pre6 enc Try.prog Try.f3 Rows.backoffFormsRow.domain false) (Rows.backoffFormsSpec.post enc Try.prog Try.f3 false true false false) := by
  refine returnsInHanded_of_change_sized (C := Try.checked) own started (by kernel_rfl) Try.func3
    (ChangeSpec.witness6 (enc := enc) (C := Try.checked) false ⟨#[], #[.agg (Array.replicate 5 (.int .i64 0)), .slice none 0 0, .bool false, .int .u32 0, .int .i64 0], []⟩ 8 (by kernel_rfl) (by kernel_rfl) (by kernel_rfl) (by kernel_rfl)) ?_
  intro W base args ds gs before hval0 hW hcnd hsz0 _
  have hval : ∀ (j : Nat) t v, Try.f3.params[j]? = some t → args[j]? = some v → Value.okWide Try.prog W .any base t v := hval0
  have hsz : (DataW.weightsEach Try.prog (Try.f3.params.toList ++ Rows.backoffFormsSpec.plain.varTypes Try.prog) (ds ++ gs)).all (· ≤ reachBytes) = true := hsz0
  have hW' := hW
  obtain ⟨p, q, hA0, hV, rfl, hfz, hnd⟩ := hW
  have hA : DataW.TrodAll enc Try.prog W 0 (fun _ => true) true Try.f3.params.toList args.toList ds p := hA0
  have hAll := hA
  rw [Try.params3] at hA hval hsz hAll
  obtain ⟨v0, vs0, d0, ds0, p0, q0, hargs, rfl, rfl, h0, r0⟩ := trodAll_cons hA
  obtain ⟨v1, vs1, d1, ds1, p1, q1, rfl, rfl, rfl, h1, r1⟩ := trodAll_cons r0
  obtain ⟨v2, vs2, d2, ds2, p2, q2, rfl, rfl, rfl, h2, r2⟩ := trodAll_cons r1
  obtain ⟨v3, vs3, d3, ds3, p3, q3, rfl, rfl, rfl, h3, r3⟩ := trodAll_cons r2
  obtain ⟨v4, vs4, d4, ds4, p4, q4, rfl, rfl, rfl, h4, r4⟩ := trodAll_cons r3
  obtain ⟨rfl, rfl, rfl⟩ := trodAll_nil r4
  obtain rfl : args = #[v0, v1, v2, v3, v4] := by cases args; simp_all
  obtain ⟨rfl, rfl⟩ := trodVars_none hV
  obtain ⟨x0, hR0, _⟩ := open_agg opens_Backoff Try.underlying23 (hval 0 23 v0 rfl rfl) h0
  obtain ⟨xs1, hR1, hwf1, hln1⟩ := open_intsS Try.underlying24 Try.underlying3 (by kernel_rfl) (by kernel_rfl : Try.prog.bytesOf 3 = 8) (by decide) (hval 1 24 v1 rfl rfl) h1 hsz (j := 1) rfl rfl
  obtain ⟨x2, rfl, rfl, rfl⟩ := open_bool Try.underlying4 (hval 2 4 v2 rfl rfl) h2
  obtain ⟨x3, rfl, rfl, rfl, w3⟩ := open_int Try.underlying25 (hval 3 25 v3 rfl rfl) h3
  obtain ⟨x4, rfl, rfl, rfl, w4⟩ := open_int Try.underlying3 (hval 4 3 v4 rfl rfl) h4
  clear hA0 hval0 hsz0
  refine (forms_calls hR0 hR1 w3).mono fun e W' ⟨he, hx⟩ => ?_
  subst he
  have bel := hx.below
  exact ⟨_, rfl, _, _, _, [], _, [], hW', trodAll_mk1 (shut_bool Try.underlying4 _), trodAll_below laidOut bel (by kernel_rfl) hAll, rfl, bel.frame _, fun h => by cases h⟩

theorem backoffForms_holds : Rows.BackoffFormsSaid :=
  OpenClaim.holds_of_wide 3 Try.f3 rfl rfl rfl rfl rfl rfl rfl ⟨rfl, rfl, rfl, rfl, rfl⟩ rfl rfl rfl rfl rfl (by kernel_rfl) Try.func3 (by kernel_rfl)
    (of_decide_eq_true (by kernel_rfl)) (by unfold Func.isWrapper; first | (rw [if_pos (by decide +kernel)]; kernel_rfl) | (rw [if_neg (by decide +kernel)]; exact ⟨rfl, rfl⟩))
    (fun os started H enc _ => backoffForms_lifted os started H enc)
#print axioms backoffForms_holds
end Go.Proofs.Ytohhaibbbnobpaa
