/-
  backoff.Step and Ended; the helpers 'at' and 'busy' of the laws.
-/
import Derived.Test.YtohhaibbbnobpaaBkStep
import Derived.Test.YtohhaibbbnobpaaBytes
namespace Go.Proofs.Ytohhaibbbnobpaa
open Go.RowKit

theorem valid_of {s : Bk} (h : validB s = true) : s.Valid := of_decide_eq_true h

set_option maxRecDepth 100000 in
set_option maxHeartbeats 1000000 in
theorem ended_any (s : Bk) (w : World) : Calls Try.prog 14 #[s.agg] w fun e w' => e = .returned (.bool (endedB s)) ∧ Ext w w' := by
  obtain ⟨st, bu, ex, cl, wt⟩ := s
  show Calls Try.prog 14 #[.agg #[.int .i64 st, .int .i64 bu, .int .i64 ex, .int .i64 cl, .int .i64 wt]] w _
  have fin : ∀ b, endedB ⟨st, bu, ex, cl, wt⟩ = b → Ending.returned (.bool b) = .returned (.bool (endedB ⟨st, bu, ex, cl, wt⟩)) := fun b hb => by rw [hb]
  have FIN := Lib.hid fin
  clear fin
  go_enter Try.func14, Try.ntmps14
  go_wp2_with fail
  refine (valid_any ⟨st, bu, ex, cl, wt⟩ _).mono ?_
  rintro e w' ⟨rfl, g, rfl⟩
  have hE := Lib.hid ((Ext.alloc w (.cells #[.int .i64 st, .int .i64 bu, .int .i64 ex, .int .i64 cl, .int .i64 wt] 23)).trans (Ext.plus _ g))
  cases hv : validB ⟨st, bu, ex, cl, wt⟩ with
  | false =>
    have HV := Lib.hid hv
    clear hv
    go_wp2
    go_ret
    refine ⟨FIN.out _ (decide_eq_false ?_), hE.out⟩
    rintro ⟨h, _⟩
    exact absurd (decide_eq_true h) (by rw [show decide _ = _ from HV.out]; simp)
  | true =>
    have HV := Lib.hid (valid_of hv)
    clear hv
    by_cases h3 : st = 3
    · subst h3
      go_wp2
      go_ret
      exact ⟨FIN.out _ (decide_eq_true ⟨HV.out, .inl rfl⟩), hE.out⟩
    · have e3 : (st == 3) = false := by simpa using h3
      by_cases h4 : st = 4
      · subst h4
        go_wp2
        go_ret
        exact ⟨FIN.out _ (decide_eq_true ⟨HV.out, .inr rfl⟩), hE.out⟩
      · have e4 : (st == 4) = false := by simpa using h4
        go_wp2
        go_ret
        exact ⟨FIN.out _ (decide_eq_false (by rintro ⟨_, h⟩; dsimp only at h; omega)), hE.out⟩

set_option maxRecDepth 100000 in
set_option maxHeartbeats 2000000 in
theorem step_any (s : Bk) (busy : Bool) (d : Int) (w : World) (h0 : 0 ≤ d) (h1 : d ≤ 4294967295) :
    Calls Try.prog 16 #[s.agg, .bool busy, .int .u32 d] w fun e w' => e = .returned (s.step busy d).agg ∧ Ext w w' := by
  obtain ⟨st, bu, ex, cl, wt⟩ := s
  show Calls Try.prog 16 #[.agg #[.int .i64 st, .int .i64 bu, .int .i64 ex, .int .i64 cl, .int .i64 wt], .bool busy, .int .u32 d] w _
  have fin : ∀ t, (Bk.mk st bu ex cl wt).step busy d = t → Ending.returned t.agg = .returned ((Bk.mk st bu ex cl wt).step busy d).agg := fun t ht => by rw [ht]
  have FIN := Lib.hid fin
  clear fin
  cases hv : validB ⟨st, bu, ex, cl, wt⟩ with
  | false =>
    have hstep : (Bk.mk st bu ex cl wt).step busy d = ⟨0, 0, 0, 0, 0⟩ := by simp [Bk.step, hv]
    have HS := Lib.hid hstep
    clear hstep
    go_enter Try.func16, Try.ntmps16
    go_wp2_with fail
    refine (valid_any ⟨st, bu, ex, cl, wt⟩ _).mono ?_
    rintro e w' ⟨rfl, g, rfl⟩
    rw [hv]
    clear hv
    go_wp2
    exact bodyPost_ret (v := (Bk.mk 0 0 0 0 0).agg) (by simp [results, Try.results16, go_sem, Bk.agg]) rfl ⟨FIN.out _ HS.out, (bext2 _ _ _).trans (Ext.plus _ _)⟩
  | true =>
    have HV := Lib.hid (valid_of hv)
    by_cases c1 : st = 1
    · subst c1
      have hw : 1 ≤ wt ∧ wt ≤ 32 := by have := HV.out; simp only [Bk.Valid] at this; omega
      by_cases c0 : wt = 1
      · subst c0
        have hstep : (Bk.mk 1 bu ex cl 1).step busy d = ⟨2, bu, ex, cl, 0⟩ := by simp [Bk.step, hv]
        have HS := Lib.hid hstep
        clear hstep
        go_enter Try.func16, Try.ntmps16
        go_wp2_with fail
        refine (valid_any ⟨1, bu, ex, cl, 1⟩ _).mono ?_
        rintro e w' ⟨rfl, g, rfl⟩
        rw [hv]
        clear hv
        go_wp2
        exact bodyPost_ret (v := (Bk.mk 2 bu ex cl 0).agg) (by simp [results, Try.results16, go_sem, Bk.agg]) rfl ⟨FIN.out _ HS.out, (bext2 _ _ _).trans (Ext.plus _ _)⟩
      · have hstep : (Bk.mk 1 bu ex cl wt).step busy d = ⟨1, bu, ex, cl, wt - 1⟩ := by
          have : wt - 1 ≠ 0 := by omega
          simp [Bk.step, hv, this]
        have HS := Lib.hid hstep
        clear hstep
        have hz : (wt - 1 == 0) = false := by simp; omega
        go_enter Try.func16, Try.ntmps16
        go_wp2_with fail
        refine (valid_any ⟨1, bu, ex, cl, wt⟩ _).mono ?_
        rintro e w' ⟨rfl, g, rfl⟩
        rw [hv]
        clear hv
        go_wp2
        exact bodyPost_ret (v := (Bk.mk 1 bu ex cl (wt - 1)).agg) (by simp [results, Try.results16, go_sem, Bk.agg]) rfl ⟨FIN.out _ HS.out, (bext2 _ _ _).trans (Ext.plus _ _)⟩
    · have e1 : (st == 1) = false := by simpa using c1
      by_cases c2 : st = 2
      · subst c2
        have hb : (0 ≤ bu ∧ bu ≤ 5) ∧ (1 ≤ cl ∧ cl ≤ 2) := by have := HV.out; simp only [Bk.Valid] at this; omega
        have hstep : (Bk.mk 2 bu ex cl wt).step busy d = (Bk.mk 2 bu ex cl wt).sense busy d := by simp [Bk.step, hv]
        obtain ⟨t, ht⟩ : ∃ t, (Bk.mk 2 bu ex cl wt).sense busy d = t := ⟨_, rfl⟩
        rw [ht] at hstep
        have HS := Lib.hid hstep
        have HT := Lib.hid ht
        clear hstep ht
        go_enter Try.func16, Try.ntmps16
        go_wp2_with fail
        refine (valid_any ⟨2, bu, ex, cl, wt⟩ _).mono ?_
        rintro e w' ⟨rfl, g, rfl⟩
        rw [hv]
        clear hv
        go_wp2_with fail
        refine (sense_any ⟨2, bu, ex, cl, wt⟩ busy d _ hb.1 hb.2 h0 h1).mono ?_
        rintro e w' ⟨rfl, g2, rfl⟩
        rw [HT.out, bagg_eq]
        go_wp2
        exact bodyPost_ret (v := t.agg) (by simp [results, Try.results16, go_sem, Bk.agg]) rfl ⟨FIN.out _ HS.out, (bext2 _ _ _).trans (Ext.plus _ _)⟩
      · have e2 : (st == 2) = false := by simpa using c2
        have hstep : (Bk.mk st bu ex cl wt).step busy d = ⟨st, bu, ex, cl, wt⟩ := by simp [Bk.step, hv, c1, c2]
        have HS := Lib.hid hstep
        clear hstep
        go_enter Try.func16, Try.ntmps16
        go_wp2_with fail
        refine (valid_any ⟨st, bu, ex, cl, wt⟩ _).mono ?_
        rintro e w' ⟨rfl, g, rfl⟩
        rw [hv]
        clear hv
        go_wp2
        exact bodyPost_ret (v := (Bk.mk st bu ex cl wt).agg) (by simp [results, Try.results16, go_sem, Bk.agg]) rfl ⟨FIN.out _ HS.out, (bext2 _ _ _).trans (Ext.plus _ _)⟩
end Go.Proofs.Ytohhaibbbnobpaa
