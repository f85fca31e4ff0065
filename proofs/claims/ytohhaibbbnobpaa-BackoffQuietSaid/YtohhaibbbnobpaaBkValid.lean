/-
  backoff.Valid and the reference's Valid.
-/
import Derived.Test.YtohhaibbbnobpaaRows
import Derived.Test.YtohhaibbbnobpaaBkPlain
import Derived.Test.YtohhaibbbnobpaaMono
import Derived.WalkSpells
import Derived.WalkLawsBesides
import Derived.Lib.Hide
namespace Go.Proofs.Ytohhaibbbnobpaa
open Go.RowKit

set_option maxHeartbeats 400000 in
theorem expo_any (b : Int) (w : World) (h0 : 0 ≤ b) (h1 : b ≤ 100) : Calls Try.prog 24 #[.int .i64 b] w fun e w' => e = .returned (.int .i64 (expB b)) ∧ w = w' := by
  go_enter Try.func24, Try.ntmps24
  go_wp2
  · go_ret
    exact ⟨by show Ending.returned (.int .i64 5) = _; rw [show expB b = 5 from by unfold expB; omega], rfl⟩
  · go_ret
    exact ⟨by show Ending.returned (.int .i64 (3 + b)) = _; rw [show expB b = 3 + b from by unfold expB; omega], rfl⟩

set_option maxHeartbeats 400000 in
theorem refexpo_any (b : Int) (w : World) (h0 : 0 ≤ b) (h1 : b ≤ 100) : Calls Try.prog 25 #[.int .i64 b] w fun e w' => e = .returned (.int .i64 (expB b)) ∧ w = w' := by
  go_enter Try.func25, Try.ntmps25
  go_wp2
  · go_ret
    exact ⟨by show Ending.returned (.int .i64 5) = _; rw [show expB b = 5 from by unfold expB; omega], rfl⟩
  · go_ret
    exact ⟨by show Ending.returned (.int .i64 (3 + b)) = _; rw [show expB b = 3 + b from by unfold expB; omega], rfl⟩


set_option maxRecDepth 100000 in
set_option maxHeartbeats 2000000 in
theorem valid_out (st bu ex cl wt : Int) (w : World) (h : bu < 0 ∨ 5 < bu) :
    Calls Try.prog 12 #[.agg #[.int .i64 st, .int .i64 bu, .int .i64 ex, .int .i64 cl, .int .i64 wt]] w fun e w' => e = .returned (.bool false) ∧ Ext w w' := by
  rcases h with h | h
  · have h1 : decide (bu < 0) = true := by simpa using h
    go_enter Try.func12, Try.ntmps12
    go_wp2
    refine wp_region_monoL [(13, isV (.int .i64 0))] (by kernel_rfl) (by kernel_rfl) ⟨steady_isV _, trivial⟩ ?_
    iterate 16
      first
        | (refine wpM_skip0 lax_of rfl ?_; simp only [Act.put, List.setIfInBounds_toArray, List.set_cons_zero, List.set_cons_succ])
        | (refine wpM_quiet0 lax_of rfl rfl rfl (fun K hK => ?_); go_big_quiet_op; refine hK _ ?_; clear hK K)
    refine wpM_nil (fun W hW _ => ?_)
    go_wp2
    go_ret
    exact ⟨rfl, (Ext.alloc _ _).trans hW⟩
  · have h1 : decide (bu < 0) = false := by simp; omega
    have h2 : decide (5 < bu) = true := by simpa using h
    go_enter Try.func12, Try.ntmps12
    go_wp2
    refine wp_region_monoL [(13, isV (.int .i64 0))] (by kernel_rfl) (by kernel_rfl) ⟨steady_isV _, trivial⟩ ?_
    iterate 16
      first
        | (refine wpM_skip0 lax_of rfl ?_; simp only [Act.put, List.setIfInBounds_toArray, List.set_cons_zero, List.set_cons_succ])
        | (refine wpM_quiet0 lax_of rfl rfl rfl (fun K hK => ?_); go_big_quiet_op; refine hK _ ?_; clear hK K)
    refine wpM_nil (fun W hW _ => ?_)
    go_wp2
    go_ret
    exact ⟨rfl, (Ext.alloc _ _).trans hW⟩

set_option maxRecDepth 100000 in
set_option maxHeartbeats 2000000 in
theorem valid_ex (st bu ex cl wt : Int) (w : World) (h0 : 0 ≤ bu) (h5 : bu ≤ 5) (he : ex ≠ expB bu) :
    Calls Try.prog 12 #[.agg #[.int .i64 st, .int .i64 bu, .int .i64 ex, .int .i64 cl, .int .i64 wt]] w fun e w' => e = .returned (.bool false) ∧ Ext w w' := by
  have h1 : decide (bu < 0) = false := by simp; omega
  have h2 : decide (5 < bu) = false := by simp; omega
  have h3 : (ex != expB bu) = true := by simpa using he
  go_enter Try.func12, Try.ntmps12
  go_wp2
  refine wp_region_monoL [(13, isV (.int .i64 (expB bu)))] (by kernel_rfl) (by kernel_rfl) ⟨steady_isV _, trivial⟩ ?_
  iterate 13
    first
      | (refine wpM_skip0 lax_of rfl ?_; simp only [Act.put, List.setIfInBounds_toArray, List.set_cons_zero, List.set_cons_succ])
      | (refine wpM_quiet0 lax_of rfl rfl rfl (fun K hK => ?_); go_big_quiet_op; refine hK _ ?_; clear hK K)
  refine wpM_val _ lax_of rfl rfl (fun W hW => ?_) ?_
  · obtain ⟨g, rfl⟩ := hW
    go_simp
    exact fit_same (expo_any bu _ h0 (by omega))
  simp only [Act.put, List.setIfInBounds_toArray, List.set_cons_zero, List.set_cons_succ]
  iterate 2
    first
      | (refine wpM_skip0 lax_of rfl ?_; simp only [Act.put, List.setIfInBounds_toArray, List.set_cons_zero, List.set_cons_succ])
      | (refine wpM_quiet0 lax_of rfl rfl rfl (fun K hK => ?_); go_big_quiet_op; refine hK _ ?_; clear hK K)
  refine wpM_nil (fun W hW _ => ?_)
  go_wp2
  go_ret
  exact ⟨rfl, (Ext.alloc _ _).trans hW⟩

set_option maxRecDepth 100000 in
set_option maxHeartbeats 8000000 in
theorem valid_in (st bu ex cl wt : Int) (w : World) (h0 : 0 ≤ bu) (h5 : bu ≤ 5) (he : ex = expB bu) :
    Calls Try.prog 12 #[.agg #[.int .i64 st, .int .i64 bu, .int .i64 ex, .int .i64 cl, .int .i64 wt]] w fun e w' => e = .returned (.bool (validB ⟨st, bu, ex, cl, wt⟩)) ∧ Ext w w' := by
  have h1 : decide (bu < 0) = false := by simp; omega
  have h2 : decide (5 < bu) = false := by simp; omega
  have h3 : (ex != expB bu) = false := by simpa using he
  have hmin : ex ≤ 5 ∧ 3 ≤ ex := by unfold expB at he; omega
  have HE := Lib.hid he
  clear he
  go_enter Try.func12, Try.ntmps12
  go_wp2
  refine wp_region_monoL [(13, isV (.int .i64 (expB bu)))] (by kernel_rfl) (by kernel_rfl) ⟨steady_isV _, trivial⟩ ?_
  iterate 13
    first
      | (refine wpM_skip0 lax_of rfl ?_; simp only [Act.put, List.setIfInBounds_toArray, List.set_cons_zero, List.set_cons_succ])
      | (refine wpM_quiet0 lax_of rfl rfl rfl (fun K hK => ?_); go_big_quiet_op; refine hK _ ?_; clear hK K)
  refine wpM_val _ lax_of rfl rfl (fun W hW => ?_) ?_
  · obtain ⟨g, rfl⟩ := hW
    go_simp
    exact fit_same (expo_any bu _ h0 (by omega))
  simp only [Act.put, List.setIfInBounds_toArray, List.set_cons_zero, List.set_cons_succ]
  iterate 2
    first
      | (refine wpM_skip0 lax_of rfl ?_; simp only [Act.put, List.setIfInBounds_toArray, List.set_cons_zero, List.set_cons_succ])
      | (refine wpM_quiet0 lax_of rfl rfl rfl (fun K hK => ?_); go_big_quiet_op; refine hK _ ?_; clear hK K)
  refine wpM_nil (fun W hW _ => ?_)
  obtain ⟨g, rfl⟩ := hW
  have fin : ∀ b, validB ⟨st, bu, ex, cl, wt⟩ = b → (Ending.returned (.bool b) = .returned (.bool (validB ⟨st, bu, ex, cl, wt⟩))) := fun b hb => by rw [hb]
  have FIN := Lib.hid fin
  have hE := Lib.hid ((Ext.alloc w (.cells #[.int .i64 st, .int .i64 bu, .int .i64 ex, .int .i64 cl, .int .i64 wt] 23)).trans (Ext.plus _ g))
  clear fin
  by_cases k1 : st = 4
  · subst k1
    by_cases k2 : bu = 5
    · subst k2
      by_cases k3 : cl = 2
      · subst k3
        by_cases k4 : wt = 0
        · subst k4
          go_wp2
          go_ret
          refine ⟨?_, ?_⟩
          · refine FIN.out _ (decide_eq_true ?_)
            have := HE.out
            unfold expB at this
            exact ⟨(by first | (dsimp only; omega) | omega), (by first | (dsimp only; omega) | omega), (by first | (dsimp only; omega) | omega), .inl ⟨rfl, rfl, rfl, rfl⟩⟩
          · exact hE.out
        · have ek4 : (wt == 0) = false := by simp; omega
          go_wp2
          go_ret
          refine ⟨?_, ?_⟩
          · refine FIN.out _ (decide_eq_false ?_)
            have := HE.out
            unfold expB at this
            simp only [Bk.Valid]
            omega
          · exact hE.out
      · have ek3 : (cl == 2) = false := by simp; omega
        go_wp2
        go_ret
        refine ⟨?_, ?_⟩
        · refine FIN.out _ (decide_eq_false ?_)
          have := HE.out
          unfold expB at this
          simp only [Bk.Valid]
          omega
        · exact hE.out
    · have ek2 : (bu == 5) = false := by simp; omega
      go_wp2
      go_ret
      refine ⟨?_, ?_⟩
      · refine FIN.out _ (decide_eq_false ?_)
        have := HE.out
        unfold expB at this
        simp only [Bk.Valid]
        omega
      · exact hE.out
  · have ek1 : (st == 4) = false := by simp; omega
    by_cases k5 : 4 < bu
    · have ek5 : decide (4 < bu) = true := by simpa using k5
      go_wp2
      go_ret
      refine ⟨?_, ?_⟩
      · refine FIN.out _ (decide_eq_false ?_)
        have := HE.out
        unfold expB at this
        simp only [Bk.Valid]
        omega
      · exact hE.out
    · have ek5 : decide (4 < bu) = false := by simp; omega
      by_cases k6 : st = 1
      · subst k6
        by_cases k7 : cl = 2
        · subst k7
          by_cases k8 : 1 ≤ wt
          · have ek8 : decide (1 ≤ wt) = true := by simpa using k8
            rcases (by omega : ex = 3 ∨ ex = 4 ∨ ex = 5) with hx | hx | hx
            · subst hx
              by_cases k9 : wt ≤ 7
              · have ek9 : decide (wt ≤ 7) = true := by simpa using k9
                go_wp2
                refine wp_region_monoL [] (by kernel_rfl) (by kernel_rfl) trivial ?_
                iterate 18
                  first
                    | (refine wpM_skip0 lax_of rfl ?_; simp only [Act.put, List.setIfInBounds_toArray, List.set_cons_zero, List.set_cons_succ])
                    | (refine wpM_quiet0 lax_of rfl rfl rfl (fun K hK => ?_); go_big_quiet_op; refine hK _ ?_; clear hK K)
                refine wpM_nil (fun W2 hW2 _ => ?_)
                go_wp2
                go_ret
                refine ⟨?_, ?_⟩
                · refine FIN.out _ (decide_eq_true ?_)
                  have := HE.out
                  unfold expB at this
                  exact ⟨(by first | (dsimp only; omega) | omega), (by first | (dsimp only; omega) | omega), (by first | (dsimp only; omega) | omega), .inr ⟨(by first | (dsimp only; omega) | omega), .inl ⟨rfl, rfl, (by first | (dsimp only; omega) | omega), (by first | (dsimp only; omega) | omega)⟩⟩⟩
                · exact hE.out.trans hW2
              · have ek9 : decide (wt ≤ 7) = false := by simp; omega
                go_wp2
                refine wp_region_monoL [] (by kernel_rfl) (by kernel_rfl) trivial ?_
                iterate 18
                  first
                    | (refine wpM_skip0 lax_of rfl ?_; simp only [Act.put, List.setIfInBounds_toArray, List.set_cons_zero, List.set_cons_succ])
                    | (refine wpM_quiet0 lax_of rfl rfl rfl (fun K hK => ?_); go_big_quiet_op; refine hK _ ?_; clear hK K)
                refine wpM_nil (fun W2 hW2 _ => ?_)
                go_wp2
                go_ret
                refine ⟨?_, ?_⟩
                · refine FIN.out _ (decide_eq_false ?_)
                  have := HE.out
                  unfold expB at this
                  simp only [Bk.Valid]
                  omega
                · exact hE.out.trans hW2
            · subst hx
              by_cases k10 : wt ≤ 15
              · have ek10 : decide (wt ≤ 15) = true := by simpa using k10
                go_wp2
                refine wp_region_monoL [] (by kernel_rfl) (by kernel_rfl) trivial ?_
                iterate 18
                  first
                    | (refine wpM_skip0 lax_of rfl ?_; simp only [Act.put, List.setIfInBounds_toArray, List.set_cons_zero, List.set_cons_succ])
                    | (refine wpM_quiet0 lax_of rfl rfl rfl (fun K hK => ?_); go_big_quiet_op; refine hK _ ?_; clear hK K)
                refine wpM_nil (fun W2 hW2 _ => ?_)
                go_wp2
                go_ret
                refine ⟨?_, ?_⟩
                · refine FIN.out _ (decide_eq_true ?_)
                  have := HE.out
                  unfold expB at this
                  exact ⟨(by first | (dsimp only; omega) | omega), (by first | (dsimp only; omega) | omega), (by first | (dsimp only; omega) | omega), .inr ⟨(by first | (dsimp only; omega) | omega), .inl ⟨rfl, rfl, (by first | (dsimp only; omega) | omega), (by first | (dsimp only; omega) | omega)⟩⟩⟩
                · exact hE.out.trans hW2
              · have ek10 : decide (wt ≤ 15) = false := by simp; omega
                go_wp2
                refine wp_region_monoL [] (by kernel_rfl) (by kernel_rfl) trivial ?_
                iterate 18
                  first
                    | (refine wpM_skip0 lax_of rfl ?_; simp only [Act.put, List.setIfInBounds_toArray, List.set_cons_zero, List.set_cons_succ])
                    | (refine wpM_quiet0 lax_of rfl rfl rfl (fun K hK => ?_); go_big_quiet_op; refine hK _ ?_; clear hK K)
                refine wpM_nil (fun W2 hW2 _ => ?_)
                go_wp2
                go_ret
                refine ⟨?_, ?_⟩
                · refine FIN.out _ (decide_eq_false ?_)
                  have := HE.out
                  unfold expB at this
                  simp only [Bk.Valid]
                  omega
                · exact hE.out.trans hW2
            · subst hx
              by_cases k11 : wt ≤ 31
              · have ek11 : decide (wt ≤ 31) = true := by simpa using k11
                go_wp2
                refine wp_region_monoL [] (by kernel_rfl) (by kernel_rfl) trivial ?_
                iterate 18
                  first
                    | (refine wpM_skip0 lax_of rfl ?_; simp only [Act.put, List.setIfInBounds_toArray, List.set_cons_zero, List.set_cons_succ])
                    | (refine wpM_quiet0 lax_of rfl rfl rfl (fun K hK => ?_); go_big_quiet_op; refine hK _ ?_; clear hK K)
                refine wpM_nil (fun W2 hW2 _ => ?_)
                go_wp2
                go_ret
                refine ⟨?_, ?_⟩
                · refine FIN.out _ (decide_eq_true ?_)
                  have := HE.out
                  unfold expB at this
                  exact ⟨(by first | (dsimp only; omega) | omega), (by first | (dsimp only; omega) | omega), (by first | (dsimp only; omega) | omega), .inr ⟨(by first | (dsimp only; omega) | omega), .inl ⟨rfl, rfl, (by first | (dsimp only; omega) | omega), (by first | (dsimp only; omega) | omega)⟩⟩⟩
                · exact hE.out.trans hW2
              · have ek11 : decide (wt ≤ 31) = false := by simp; omega
                go_wp2
                refine wp_region_monoL [] (by kernel_rfl) (by kernel_rfl) trivial ?_
                iterate 18
                  first
                    | (refine wpM_skip0 lax_of rfl ?_; simp only [Act.put, List.setIfInBounds_toArray, List.set_cons_zero, List.set_cons_succ])
                    | (refine wpM_quiet0 lax_of rfl rfl rfl (fun K hK => ?_); go_big_quiet_op; refine hK _ ?_; clear hK K)
                refine wpM_nil (fun W2 hW2 _ => ?_)
                go_wp2
                go_ret
                refine ⟨?_, ?_⟩
                · refine FIN.out _ (decide_eq_false ?_)
                  have := HE.out
                  unfold expB at this
                  simp only [Bk.Valid]
                  omega
                · exact hE.out.trans hW2
          · have ek8 : decide (1 ≤ wt) = false := by simp; omega
            go_wp2
            refine wp_region_monoL [] (by kernel_rfl) (by kernel_rfl) trivial ?_
            iterate 18
              first
                | (refine wpM_skip0 lax_of rfl ?_; simp only [Act.put, List.setIfInBounds_toArray, List.set_cons_zero, List.set_cons_succ])
                | (refine wpM_quiet0 lax_of rfl rfl rfl (fun K hK => ?_); go_big_quiet_op; refine hK _ ?_; clear hK K)
            refine wpM_nil (fun W2 hW2 _ => ?_)
            go_wp2
            go_ret
            refine ⟨?_, ?_⟩
            · refine FIN.out _ (decide_eq_false ?_)
              have := HE.out
              unfold expB at this
              simp only [Bk.Valid]
              omega
            · exact hE.out.trans hW2
        · have ek7 : (cl == 2) = false := by simp; omega
          go_wp2
          refine wp_region_monoL [] (by kernel_rfl) (by kernel_rfl) trivial ?_
          iterate 18
            first
              | (refine wpM_skip0 lax_of rfl ?_; simp only [Act.put, List.setIfInBounds_toArray, List.set_cons_zero, List.set_cons_succ])
              | (refine wpM_quiet0 lax_of rfl rfl rfl (fun K hK => ?_); go_big_quiet_op; refine hK _ ?_; clear hK K)
          refine wpM_nil (fun W2 hW2 _ => ?_)
          go_wp2
          go_ret
          refine ⟨?_, ?_⟩
          · refine FIN.out _ (decide_eq_false ?_)
            have := HE.out
            unfold expB at this
            simp only [Bk.Valid]
            omega
          · exact hE.out.trans hW2
      · have ek6 : (st == 1) = false := by simp; omega
        by_cases k12 : st = 2
        · subst k12
          by_cases k13 : 1 ≤ cl
          · have ek13 : decide (1 ≤ cl) = true := by simpa using k13
            by_cases k14 : cl ≤ 2
            · have ek14 : decide (cl ≤ 2) = true := by simpa using k14
              by_cases k15 : wt = 0
              · subst k15
                go_wp2
                go_ret
                refine ⟨?_, ?_⟩
                · refine FIN.out _ (decide_eq_true ?_)
                  have := HE.out
                  unfold expB at this
                  exact ⟨(by first | (dsimp only; omega) | omega), (by first | (dsimp only; omega) | omega), (by first | (dsimp only; omega) | omega), .inr ⟨(by first | (dsimp only; omega) | omega), .inr (.inl ⟨rfl, (by first | (dsimp only; omega) | omega), (by first | (dsimp only; omega) | omega), rfl⟩)⟩⟩
                · exact hE.out
              · have ek15 : (wt == 0) = false := by simp; omega
                go_wp2
                go_ret
                refine ⟨?_, ?_⟩
                · refine FIN.out _ (decide_eq_false ?_)
                  have := HE.out
                  unfold expB at this
                  simp only [Bk.Valid]
                  omega
                · exact hE.out
            · have ek14 : decide (cl ≤ 2) = false := by simp; omega
              go_wp2
              go_ret
              refine ⟨?_, ?_⟩
              · refine FIN.out _ (decide_eq_false ?_)
                have := HE.out
                unfold expB at this
                simp only [Bk.Valid]
                omega
              · exact hE.out
          · have ek13 : decide (1 ≤ cl) = false := by simp; omega
            go_wp2
            go_ret
            refine ⟨?_, ?_⟩
            · refine FIN.out _ (decide_eq_false ?_)
              have := HE.out
              unfold expB at this
              simp only [Bk.Valid]
              omega
            · exact hE.out
        · have ek12 : (st == 2) = false := by simp; omega
          by_cases k16 : st = 3
          · subst k16
            by_cases k17 : cl = 0
            · subst k17
              by_cases k18 : wt = 0
              · subst k18
                go_wp2
                go_ret
                refine ⟨?_, ?_⟩
                · refine FIN.out _ (decide_eq_true ?_)
                  have := HE.out
                  unfold expB at this
                  exact ⟨(by first | (dsimp only; omega) | omega), (by first | (dsimp only; omega) | omega), (by first | (dsimp only; omega) | omega), .inr ⟨(by first | (dsimp only; omega) | omega), .inr (.inr ⟨rfl, rfl, rfl⟩)⟩⟩
                · exact hE.out
              · have ek18 : (wt == 0) = false := by simp; omega
                go_wp2
                go_ret
                refine ⟨?_, ?_⟩
                · refine FIN.out _ (decide_eq_false ?_)
                  have := HE.out
                  unfold expB at this
                  simp only [Bk.Valid]
                  omega
                · exact hE.out
            · have ek17 : (cl == 0) = false := by simp; omega
              go_wp2
              go_ret
              refine ⟨?_, ?_⟩
              · refine FIN.out _ (decide_eq_false ?_)
                have := HE.out
                unfold expB at this
                simp only [Bk.Valid]
                omega
              · exact hE.out
          · have ek16 : (st == 3) = false := by simp; omega
            go_wp2
            go_ret
            refine ⟨?_, ?_⟩
            · refine FIN.out _ (decide_eq_false ?_)
              have := HE.out
              unfold expB at this
              simp only [Bk.Valid]
              omega
            · exact hE.out

theorem valid_any (s : Bk) (w : World) : Calls Try.prog 12 #[s.agg] w fun e w' => e = .returned (.bool (validB s)) ∧ Ext w w' := by
  obtain ⟨st, bu, ex, cl, wt⟩ := s
  by_cases h : bu < 0 ∨ 5 < bu
  · rw [show validB ⟨st, bu, ex, cl, wt⟩ = false from decide_eq_false (by simp only [Bk.Valid]; omega)]
    exact valid_out st bu ex cl wt w h
  · by_cases he : ex = expB bu
    · exact valid_in st bu ex cl wt w (by omega) (by omega) he
    · rw [show validB ⟨st, bu, ex, cl, wt⟩ = false from decide_eq_false (by unfold expB at he; simp only [Bk.Valid]; omega)]
      exact valid_ex st bu ex cl wt w (by omega) (by omega) he
end Go.Proofs.Ytohhaibbbnobpaa
